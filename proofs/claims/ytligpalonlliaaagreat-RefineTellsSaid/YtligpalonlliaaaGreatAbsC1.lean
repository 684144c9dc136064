/- The program's functions as codes of the abstract interpreter, and that each is the program's own. Printed by wip/abs/absgen.py and codetext.py. -/
import Derived.Test.YtligpalonlliaaaGreatAbsP
import Derived.Test.YtligpalonlliaaaGreatProg
import Derived.KernelRfl
set_option maxRecDepth 100000
set_option linter.all false
set_option linter.unusedVariables false
set_option linter.unusedSimpArgs false
set_option linter.constructorNameAsVariable false
set_option linter.defProp false
namespace Go.Proofs.Abs
open ACode AIns AX
def c1001_1 : ACode :=
(.reg [xm 88 18,xm 89 19,xo 90 (.bin .geq 0 (.t 89) (ki 0)),xo 91 (.bin .neq 1 (.t 88) (.t 90)),xm 92 91,xf 93 92 (.mov (.t 18)),xf 94 92 (.mov (.t 93)),xt 95 94 (.mov (.t 17)),xt 96 94 (.faddr 0 (.t 5)),xt 97 94 (.load false 1 (.t 96)),xt 98 94 (.mov (.t 19)),xt 99 94 (.iaddr 2 (.t 97) (.t 98)),xt 100 94 (.faddr 1 (.t 99)),xt 101 94 (.load false 1 (.t 100)),xt 102 94 (.bin .neq 0 (.t 95) (.t 101)),xf 103 92 (.pick (.t 94) (.t 102) kf),xo 104 (.pick (.t 92) kt (.t 103)),xm 105 104,xf 106 105 (.mov (.t 18)),xf 107 105 (.un .not (.t 106)),xf 108 105 (.mov (.t 107)),xt 109 108 (.mov (.t 17)),xt 110 108 (.bin .neq 0 (.t 109) (ki 0)),xf 111 105 (.pick (.t 108) (.t 110) kf),xo 112 (.pick (.t 105) kt (.t 111))] (rng 88 24))
def c1001_2 : ACode :=
(.reg [xm 113 9,xm 114 11,xo 115 (.call 16 [(true, (.t 113)),(true, (.t 114))]),xm 116 115,xt 117 116 (.mov (.t 10)),xt 118 116 (.mov (.t 12)),xt 119 116 (.bin .eql 1 (.t 117) (.t 118)),xo 120 (.pick (.t 116) (.t 119) kf),xm 121 120,xt 122 121 (.mov (.t 13)),xt 123 121 (.mov (.t 15)),xt 124 121 (.call 17 [(true, (.t 122)),(true, (.t 123))]),xo 125 (.pick (.t 121) (.t 124) kf),xm 126 125,xt 127 126 (.mov (.t 14)),xt 128 126 (.mov (.t 16)),xt 129 126 (.bin .eql 1 (.t 127) (.t 128)),xo 130 (.pick (.t 126) (.t 129) kf),xm 131 130,xt 132 131 (.mov (.t 20)),xt 133 131 (.mov (.t 22)),xt 134 131 (.call 18 [(true, (.t 132)),(true, (.t 133))]),xo 135 (.pick (.t 131) (.t 134) kf),xm 136 135,xt 137 136 (.mov (.t 21)),xt 138 136 (.mov (.t 23)),xt 139 136 (.bin .eql 1 (.t 137) (.t 138)),xo 140 (.pick (.t 136) (.t 139) kf),xm 141 140,xt 142 141 (.mov (.t 7)),xt 143 141 (.mov (.t 0)),xt 144 141 (.call 16 [(true, (.t 142)),(true, (.t 143))]),xo 145 (.pick (.t 141) (.t 144) kf),xm 146 145,xt 147 146 (.mov (.t 8)),xt 148 146 (.mov (.t 1)),xt 149 146 (.call 16 [(true, (.t 147)),(true, (.t 148))]),xo 150 (.pick (.t 146) (.t 149) kf),xm 151 150,xt 152 151 (.call 6 []),xo 153 (.pick (.t 151) (.t 152) kf),xm 6 153] (rng 113 41))
def c1001_3 : ACode :=
(.seq (.reg [xo 64 (.faddr 0 (.t 5)),xo 65 (.load false 1 (.t 64)),xo 66 (.faddr 1 (.t 5)),xo 67 (.load false 1 (.t 66)),xo 68 (.call 12 [(true, (.t 65)),(true, (.t 67))]),xm 63 68,xo 69 (.ext (.t 63) 0),xo 70 (.ext (.t 63) 1),xm 17 69,xm 18 70] (rng 63 8))
(.seq (.reg [xo 71 (.faddr 0 (.t 5)),xo 72 (.load false 1 (.t 71)),xo 73 (.faddr 1 (.t 5)),xo 74 (.load false 1 (.t 73)),xo 75 (.call 13 [(true, (.t 72)),(true, (.t 74))]),xm 19 75] (rng 71 5))
(.seq (.reg [xm 77 7,xm 78 8,xo 79 (.call 14 [(true, (.t 77)),(true, (.t 78))]),xm 76 79,xo 80 (.ext (.t 76) 0),xo 81 (.ext (.t 76) 1),xm 20 80,xm 21 81] (rng 76 6))
(.seq (.reg [xm 83 0,xm 84 1,xo 85 (.call 15 [(true, (.t 83)),(true, (.t 84))]),xm 82 85,xo 86 (.ext (.t 82) 0),xo 87 (.ext (.t 82) 1),xm 22 86,xm 23 87] (rng 82 6))
(.seq (.seq c1001_1
(.cond (.t 112) [112] (.seq (.reg [xo 6 (.mov kf)] [])
.ret) .skip))
(.seq c1001_2
.ret))))))
def c1001_4 : ACode :=
(.seq (.reg [xm 39 0,xo 40 (.call 7 [(true, (.t 39))]),xm 41 1,xo 42 (.call 7 [(true, (.t 41))]),xm 7 40,xm 8 42] (rng 39 4))
(.seq (.reg [xm 44 7,xo 45 (.call 8 [(true, (.t 44))]),xm 43 45,xo 46 (.ext (.t 43) 0),xo 47 (.ext (.t 43) 1),xm 9 46,xm 10 47] (rng 43 5))
(.seq (.reg [xm 49 0,xo 50 (.call 9 [(true, (.t 49))]),xm 48 50,xo 51 (.ext (.t 48) 0),xo 52 (.ext (.t 48) 1),xm 11 51,xm 12 52] (rng 48 5))
(.seq (.reg [xm 54 8,xo 55 (.call 10 [(true, (.t 54))]),xm 53 55,xo 56 (.ext (.t 53) 0),xo 57 (.ext (.t 53) 1),xm 13 56,xm 14 57] (rng 53 5))
(.seq (.reg [xm 59 1,xo 60 (.call 11 [(true, (.t 59))]),xm 58 60,xo 61 (.ext (.t 58) 0),xo 62 (.ext (.t 58) 1),xm 15 61,xm 16 62] (rng 58 5))
c1001_3)))))
def c1001 : ACode :=
(.seq (.reg [xo 5 (.box (.t 2)),xo 6 (.mov kf)] [])
(.seq (.seq (.reg [xm 24 0,xo 25 (.call 5 [(true, (.t 24))]),xo 26 (.un .not (.t 25)),xm 27 26,xf 28 27 (.mov (.t 1)),xf 29 27 (.call 5 [(true, (.t 28))]),xf 30 27 (.un .not (.t 29)),xo 31 (.pick (.t 27) kt (.t 30)),xm 32 31,xf 33 32 (.faddr 0 (.t 5)),xf 34 32 (.load false 1 (.t 33)),xf 35 32 (.len 1 (.t 34)),xf 36 32 (.bin .gtr 0 (.t 35) (ki 200)),xo 37 (.pick (.t 32) kt (.t 36))] (rng 24 13))
(.cond (.t 37) [37] (.seq (.reg [xo 38 (.call 6 []),xm 6 38] [38])
.ret) .skip))
c1001_4))
/-- caesura/caesuralaw04.RefineTells -/
def fn1001 : AFn := ⟨3, 154, c1001, [(.t 6)], 0⟩
theorem fn1001_body : fn1001.body = c1001 := rfl
theorem fn1001_res : fn1001.res = [(.t 6)] := rfl
theorem fn1001_keep : fn1001.keep = 0 := rfl
def c1002_1 : ACode :=
(.seq (.reg [xm 124 12,xo 125 (.bin .add 0 (.t 124) (ki 1)),xm 12 125] [124,125])
(.seq (.reg [xo 18 (.mov kf)] [])
(.seq (.seq (.reg [xo 19 (.mov (ki 0))] [])
(.block 6 (.loop false (.seq (.seq (.reg [xm 126 19,xm 127 8,xo 128 (.len 1 (.t 127)),xo 129 (.bin .lss 0 (.t 126) (.t 128))] [126,127,128])
(.cond (.t 129) [129] .skip (.exit 6)))
(.seq (.block 7 (.reg [xm 132 18,xm 133 132,xf 134 133 (.mov (.t 8)),xf 135 133 (.mov (.t 19)),xf 136 133 (.iaddr 1 (.t 134) (.t 135)),xf 137 133 (.load false 1 (.t 136)),xf 138 133 (.mov (.t 17)),xf 139 133 (.call 22 [(true, (.t 137)),(true, (.t 138))]),xo 140 (.pick (.t 133) kt (.t 139)),xm 18 140] (rng 132 9)))
(.reg [xm 130 19,xo 131 (.bin .add 0 (.t 130) (ki 1)),xm 19 131] [130,131]))))))
(.seq (.reg [xm 141 18,xo 142 (.un .not (.t 141))] [141])
(.cond (.t 142) [142] (.seq (.reg [xo 4 (.mov kf)] [])
.ret) .skip)))))
def c1002_2 : ACode :=
(.seq (.dreg [xm 104 6,xm 105 13,yo 106 (.iaddr 1 (.t 104) (.t 105)) [0, 1],yo 107 (.load false 1 (.t 106)) [0, 1, 2],xm 108 1,yo 109 (.call 21 [(true, (.t 108))]) [4],yo 110 (.fld false 0 1 (.t 109)) [4, 5],yo 111 (.call 20 [(true, (.t 107)),(true, (.t 110))]) [0, 1, 2, 3, 4, 5, 6],yo 112 (.fld false 0 1 (.t 111)) [0, 1, 2, 3, 4, 5, 6, 7],ym 15 112 (rng 0 9)] (rng 104 9))
(.seq (.reg [xo 16 (.mov (ki 0))] [])
(.block 4 (.loop false (.seq (.seq (.reg [xm 113 16,xo 114 (.bin .lss 0 (.t 113) (ki 2))] [113])
(.cond (.t 114) [114] .skip (.exit 4)))
(.seq (.block 5 (.seq (.reg [xm 117 14,xm 17 117] [117])
(.seq (.seq (.reg [xm 118 16,xo 119 (.bin .eql 0 (.t 118) (ki 1))] [118])
(.cond (.t 119) [119] (.reg [xm 120 15,xm 17 120] [120]) .skip))
(.seq (.seq (.reg [xm 121 17,xo 122 (.len 1 (.t 121)),xo 123 (.bin .eql 0 (.t 122) (ki 0))] [121,122])
(.cond (.t 123) [123] (.exit 5) .skip))
c1002_1))))
(.reg [xm 115 16,xo 116 (.bin .add 0 (.t 115) (ki 1)),xm 16 116] [115,116])))))))
def c1002_3 : ACode :=
(.seq (.seq (.reg [xm 75 7,xo 76 (.un .not (.t 75)),xm 77 76,xf 78 77 (.mov (.t 9)),xf 79 77 (.un .not (.t 78)),xo 80 (.pick (.t 77) kt (.t 79)),xm 81 80,xf 82 81 (.mov (.t 11)),xf 83 81 (.un .not (.t 82)),xo 84 (.pick (.t 81) kt (.t 83)),xm 85 84,xf 86 85 (.mov (.t 6)),xf 87 85 (.mov (.t 10)),xf 88 85 (.call 16 [(true, (.t 86)),(true, (.t 87))]),xf 89 85 (.un .not (.t 88)),xo 90 (.pick (.t 85) kt (.t 89))] (rng 75 15))
(.cond (.t 90) [90] (.seq (.reg [xo 4 (.mov kf)] [])
.ret) .skip))
(.seq (.reg [xo 12 (.mov (ki 0))] [])
(.seq (.seq (.reg [xo 13 (.mov (ki 0))] [])
(.block 2 (.loop false (.seq (.seq (.reg [xm 91 13,xm 92 6,xo 93 (.len 1 (.t 92)),xo 94 (.bin .lss 0 (.t 91) (.t 93))] [91,92,93])
(.cond (.t 94) [94] .skip (.exit 2)))
(.seq (.block 3 (.seq (.reg [xm 97 6,xm 98 13,xo 99 (.iaddr 1 (.t 97) (.t 98)),xo 100 (.load false 1 (.t 99)),xm 101 1,xo 102 (.call 20 [(true, (.t 100)),(true, (.t 101))]),xo 103 (.fld false 0 1 (.t 102)),xm 14 103] (rng 97 7))
c1002_2))
(.reg [xm 95 13,xo 96 (.bin .add 0 (.t 95) (ki 1)),xm 13 96] [95,96]))))))
(.seq (.reg [xm 143 8,xo 144 (.len 1 (.t 143)),xm 145 12,xo 146 (.bin .eql 0 (.t 144) (.t 145)),xm 147 146,xt 148 147 (.call 6 []),xo 149 (.pick (.t 147) (.t 148) kf),xm 4 149] (rng 143 7))
.ret))))
def c1002_4 : ACode :=
(.seq (.seq (.reg [xm 47 1,xo 48 (.call 19 [(true, (.t 47))]),xo 49 (.un .not (.t 48))] [47,48])
(.cond (.t 49) [49] (.seq (.reg [xo 50 (.call 6 []),xm 4 50] [50])
.ret) .skip))
(.seq (.reg [xm 52 0,xo 53 (.call 8 [(true, (.t 52))]),xm 51 53,xo 54 (.ext (.t 51) 0),xo 55 (.ext (.t 51) 1),xm 6 54,xm 7 55] (rng 51 5))
(.seq (.reg [xo 57 (.mkl 46 1 [(.list 2 [])] 0 [] false),xm 58 0,xo 59 (.app 46 1 24 (.t 57) (.t 58)),xm 60 1,xo 61 (.mkl 46 1 [(.list 2 [])] 1 [(0, (.t 60))] false),xo 62 (.app 46 1 24 (.t 59) (.t 61)),xo 63 (.call 8 [(true, (.t 62))]),xm 56 63,xo 64 (.ext (.t 56) 0),xo 65 (.ext (.t 56) 1),xm 8 64,xm 9 65] (rng 56 10))
(.seq (.reg [xo 67 (.mkl 46 1 [(.list 2 [])] 0 [] false),xm 68 0,xo 69 (.app 46 1 24 (.t 67) (.t 68)),xm 70 0,xo 71 (.app 46 1 24 (.t 69) (.t 70)),xo 72 (.call 8 [(true, (.t 71))]),xm 66 72,xo 73 (.ext (.t 66) 0),xo 74 (.ext (.t 66) 1),xm 10 73,xm 11 74] (rng 66 9))
c1002_3))))
def c1002_5 : ACode :=
(.seq (.seq (.reg [xm 20 0,xo 21 (.call 5 [(true, (.t 20))]),xo 22 (.un .not (.t 21)),xm 23 22,xf 24 23 (.mov (.t 0)),xf 25 23 (.len 1 (.t 24)),xf 26 23 (.bin .gtr 0 (.t 25) (ki 5)),xo 27 (.pick (.t 23) kt (.t 26)),xm 28 27,xf 29 28 (.mov (.t 1)),xf 30 28 (.len 1 (.t 29)),xf 31 28 (.bin .gtr 0 (.t 30) (ki 40)),xo 32 (.pick (.t 28) kt (.t 31))] (rng 20 12))
(.cond (.t 32) [32] (.seq (.reg [xo 33 (.call 6 []),xm 4 33] [33])
.ret) .skip))
(.seq (.seq (.reg [xo 5 (.mov (ki 0))] [])
(.block 0 (.loop false (.seq (.seq (.reg [xm 34 5,xm 35 0,xo 36 (.len 1 (.t 35)),xo 37 (.bin .lss 0 (.t 34) (.t 36))] [34,35,36])
(.cond (.t 37) [37] .skip (.exit 0)))
(.seq (.block 1 (.seq (.reg [xm 40 0,xm 41 5,xo 42 (.iaddr 1 (.t 40) (.t 41)),xo 43 (.load false 1 (.t 42)),xo 44 (.call 19 [(true, (.t 43))]),xo 45 (.un .not (.t 44))] (rng 40 5))
(.cond (.t 45) [45] (.seq (.reg [xo 46 (.call 6 []),xm 4 46] [46])
.ret) .skip)))
(.reg [xm 38 5,xo 39 (.bin .add 0 (.t 38) (ki 1)),xm 5 39] [38,39]))))))
c1002_4))
def c1002 : ACode :=
(.seq (.reg [xo 4 (.mov kf)] [])
c1002_5)
/-- caesura/caesuralaw04.RefineMore -/
def fn1002 : AFn := ⟨2, 150, c1002, [(.t 4)], 0⟩
theorem fn1002_body : fn1002.body = c1002 := rfl
theorem fn1002_res : fn1002.res = [(.t 4)] := rfl
theorem fn1002_keep : fn1002.keep = 0 := rfl
def c1003 : ACode :=
(.seq (.reg [xo 2 (.mov kf)] [])
(.seq (.reg [xo 3 (.mov (ki 0))] [])
(.seq (.seq (.reg [xo 4 (.mov (ki 0))] [])
(.block 0 (.loop false (.seq (.seq (.reg [xm 5 4,xm 6 0,xo 7 (.len 1 (.t 6)),xo 8 (.bin .lss 0 (.t 5) (.t 7))] [5,6,7])
(.cond (.t 8) [8] .skip (.exit 0)))
(.seq (.block 1 (.seq (.reg [xm 11 3,xm 12 0,xm 13 4,xo 14 (.iaddr 1 (.t 12) (.t 13)),xo 15 (.load false 1 (.t 14)),xo 16 (.len 1 (.t 15)),xo 17 (.mm false [(.t 16),(ki 200)]),xo 18 (.bin .add 0 (ki 1) (.t 17)),xo 19 (.bin .add 0 (.t 11) (.t 18)),xm 3 19] (rng 11 9))
(.seq (.reg [xm 20 3,xo 21 (.bin .gtr 0 (.t 20) (ki 150))] [20])
(.cond (.t 21) [21] (.seq (.reg [xo 2 (.mov kf)] [])
.ret) .skip))))
(.reg [xm 9 4,xo 10 (.bin .add 0 (.t 9) (ki 1)),xm 4 10] [9,10]))))))
(.seq (.reg [xo 2 (.mov kt)] [])
.ret))))
/-- caesura/caesuralaw04.Fair -/
def fn1003 : AFn := ⟨1, 22, c1003, [(.t 2)], 0⟩
theorem fn1003_body : fn1003.body = c1003 := rfl
theorem fn1003_res : fn1003.res = [(.t 2)] := rfl
theorem fn1003_keep : fn1003.keep = 0 := rfl
def c1004 : ACode :=
(.seq (.reg [xo 0 (.mov kf)] [])
(.seq (.reg [xo 12 (.agg [(.int .i64 0),(.int .i64 0)] [(0, 1, (ki 97)),(1, 1, (ki 100))]),xo 13 (.mkl 55 2 [(.int .i64 0),(.int .i64 0)] 1 [(0, (.t 12))] false),xo 14 (.agg [(.int .i64 0),(.int .i64 0)] [(0, 1, (ki 99)),(1, 1, (ki 102))]),xo 15 (.mkl 55 2 [(.int .i64 0),(.int .i64 0)] 1 [(0, (.t 14))] false),xo 16 (.mkl 46 1 [(.list 2 [])] 2 [(0, (.t 13)),(1, (.t 15))] false),xm 1 16] (rng 12 5))
(.seq (.reg [xm 18 1,xo 19 (.call 8 [(true, (.t 18))]),xm 17 19,xo 20 (.ext (.t 17) 0),xo 21 (.ext (.t 17) 1),xm 2 20,xm 3 21] (rng 17 5))
(.seq (.reg [xm 23 2,xo 24 (.call 10 [(true, (.t 23))]),xm 22 24,xo 25 (.ext (.t 22) 0),xo 26 (.ext (.t 22) 1),xm 4 25,xm 5 26] (rng 22 5))
(.seq (.reg [xm 28 4,xo 29 (.call 12 [(true, (.t 28)),(true, (ki 101))]),xm 27 29,xo 30 (.ext (.t 27) 0),xo 31 (.ext (.t 27) 1),xm 6 30,xm 7 31] (rng 27 5))
(.seq (.reg [xm 33 1,xm 34 2,xo 35 (.call 14 [(true, (.t 33)),(true, (.t 34))]),xm 32 35,xo 36 (.ext (.t 32) 0),xo 37 (.ext (.t 32) 1),xm 8 36,xm 9 37] (rng 32 6))
(.seq (.reg [xm 39 1,xo 40 (.call 10 [(true, (.t 39))]),xm 38 40,xo 41 (.ext (.t 38) 0),xo 42 (.ext (.t 38) 1),xm 10 41,xm 11 42] [10,38,39,40,41,42])
(.seq (.reg [xm 43 3,xm 44 43,xt 45 44 (.mov (.t 2)),xt 46 44 (.len 1 (.t 45)),xt 47 44 (.bin .eql 0 (.t 46) (ki 4)),xo 48 (.pick (.t 44) (.t 47) kf),xm 49 48,xt 50 49 (.mov (.t 2)),xt 51 49 (.iaddr 1 (.t 50) (ki 1)),xt 52 49 (.load false 1 (.t 51)),xt 53 49 (.agg [(.int .i64 0),(.int .i64 0)] [(0, 1, (ki 97)),(1, 1, (ki 98))]),xt 54 49 (.mkl 55 2 [(.int .i64 0),(.int .i64 0)] 1 [(0, (.t 53))] false),xt 55 49 (.call 22 [(true, (.t 52)),(true, (.t 54))]),xo 56 (.pick (.t 49) (.t 55) kf),xm 57 56,xt 58 57 (.mov (.t 2)),xt 59 57 (.iaddr 1 (.t 58) (ki 3)),xt 60 57 (.load false 1 (.t 59)),xt 61 57 (.agg [(.int .i64 0),(.int .i64 0)] [(0, 1, (ki 101)),(1, 1, (ki 102))]),xt 62 57 (.mkl 55 2 [(.int .i64 0),(.int .i64 0)] 1 [(0, (.t 61))] false),xt 63 57 (.call 22 [(true, (.t 60)),(true, (.t 62))]),xo 64 (.pick (.t 57) (.t 63) kf),xm 65 64,xt 66 65 (.mov (.t 5)),xo 67 (.pick (.t 65) (.t 66) kf),xm 68 67,xt 69 68 (.mov (.t 4)),xt 70 68 (.agg [(.int .i64 0),(.int .i64 0)] []),xt 71 68 (.agg [(.int .i64 0),(.int .i64 0)] [(0, 1, (ki 97)),(1, 1, (ki 1))]),xt 72 68 (.agg [(.int .i64 0),(.int .i64 0)] [(0, 1, (ki 99)),(1, 1, (ki 2))]),xt 73 68 (.agg [(.int .i64 0),(.int .i64 0)] [(0, 1, (ki 101)),(1, 1, (ki 3))]),xt 74 68 (.agg [(.int .i64 0),(.int .i64 0)] [(0, 1, (ki 103))]),xt 75 68 (.mkl 40 2 [(.int .i64 0),(.int .i64 0)] 5 [(0, (.t 70)),(1, (.t 71)),(2, (.t 72)),(3, (.t 73)),(4, (.t 74))] false),xt 76 68 (.call 17 [(true, (.t 69)),(true, (.t 75))]),xo 77 (.pick (.t 68) (.t 76) kf),xm 78 77,xt 79 78 (.mov (.t 7)),xo 80 (.pick (.t 78) (.t 79) kf),xm 81 80,xt 82 81 (.mov (.t 6)),xt 83 81 (.bin .eql 0 (.t 82) (ki 3)),xo 84 (.pick (.t 81) (.t 83) kf),xm 85 84,xt 86 85 (.mov (.t 9)),xo 87 (.pick (.t 85) (.t 86) kf),xm 88 87,xt 89 88 (.mov (.t 8)),xt 90 88 (.mkl 3 1 [(.int .i64 0)] 2 [(0, (ki 1)),(1, (ki 2))] false),xt 91 88 (.mkl 3 1 [(.int .i64 0)] 2 [(0, (ki 2)),(1, (ki 3))] false),xt 92 88 (.mkl 56 1 [(.list 1 [])] 2 [(0, (.t 90)),(1, (.t 91))] false),xt 93 88 (.call 18 [(true, (.t 89)),(true, (.t 92))]),xo 94 (.pick (.t 88) (.t 93) kf),xm 95 94,xt 96 95 (.mov (.t 11)),xt 97 95 (.un .not (.t 96)),xo 98 (.pick (.t 95) (.t 97) kf),xm 0 98] (rng 43 56))
.ret))))))))
/-- caesura/caesuralaw04.wakes -/
def fn1004 : AFn := ⟨0, 99, c1004, [(.t 0)], 0⟩
theorem fn1004_body : fn1004.body = c1004 := rfl
theorem fn1004_res : fn1004.res = [(.t 0)] := rfl
theorem fn1004_keep : fn1004.keep = 0 := rfl
def c1005 : ACode :=
(.seq (.reg [xo 2 (.anil 46 1)] [])
(.seq (.reg [xo 3 (.anil 46 1)] [])
(.seq (.seq (.reg [xo 4 (.mov (ki 0))] [])
(.block 0 (.loop false (.seq (.seq (.reg [xm 5 4,xm 6 0,xo 7 (.len 1 (.t 6)),xo 8 (.bin .lss 0 (.t 5) (.t 7))] [5,6,7])
(.cond (.t 8) [8] .skip (.exit 0)))
(.seq (.block 1 (.reg [xm 11 3,xo 12 (.mkl 55 2 [(.int .i64 0),(.int .i64 0)] 0 [] false),xm 13 0,xm 14 4,xo 15 (.iaddr 1 (.t 13) (.t 14)),xo 16 (.load false 1 (.t 15)),xo 17 (.app 55 2 16 (.t 12) (.t 16)),xo 18 (.mkl 46 1 [(.list 2 [])] 1 [(0, (.t 17))] false),xo 19 (.app 46 1 24 (.t 11) (.t 18)),xm 3 19] (rng 11 9)))
(.reg [xm 9 4,xo 10 (.bin .add 0 (.t 9) (ki 1)),xm 4 10] [9,10]))))))
(.seq (.reg [xm 20 3,xm 2 20] [20])
.ret))))
/-- caesura/caesurakeep.OwnSets -/
def fn1005 : AFn := ⟨1, 21, c1005, [(.t 2)], 0⟩
theorem fn1005_body : fn1005.body = c1005 := rfl
theorem fn1005_res : fn1005.res = [(.t 2)] := rfl
theorem fn1005_keep : fn1005.keep = 0 := rfl
def c1006_1 : ACode :=
(.seq (.reg [xm 25 0,xo 26 (.len 1 (.t 25)),xo 27 (.mov (ki 0))] [])
(.block 0 (.loop false (.seq (.reg [xo 28 (.bin .lss 0 (.t 27) (.t 26))] [])
(.seq (.cond (.t 28) [28] .skip (.exit 0))
(.seq (.block 1 (.seq (.reg [xo 29 (.iaddr 1 (.t 25) (.t 27)),xo 30 (.load false 1 (.t 29)),xm 7 30] [29,30])
(.reg [xm 31 5,xm 32 4,xm 33 7,xo 34 (.call 25 [(true, (.t 31)),(true, (.t 32)),(true, (.t 33))]),xm 5 34] (rng 31 4))))
(.reg [xo 35 (.bin .add 0 (.t 27) (ki 1)),xm 27 35] [35])))))))
def c1006_2 : ACode :=
(.seq (.reg [xm 47 9,xo 48 (.bin .add 0 (.t 47) (ki 1)),xm 49 4,xo 50 (.len 1 (.t 49)),xo 51 (.bin .lss 0 (.t 48) (.t 50))] (rng 47 4))
(.cond (.t 51) [51] (.reg [xm 53 4,xm 54 9,xo 55 (.bin .add 0 (.t 54) (ki 1)),xo 56 (.iaddr 1 (.t 53) (.t 55)),xo 57 (.load false 1 (.t 56)),xo 58 (.call 27 [(true, (.t 57))]),xm 52 58,xo 59 (.ext (.t 52) 0),xo 60 (.ext (.t 52) 1),xm 11 59] (rng 52 9)) .skip))
def c1006_3 : ACode :=
(.dreg [xm 61 8,xm 62 10,xm 63 8,xm 64 10,yo 65 (.iaddr 1 (.t 63) (.t 64)) [2, 3],yo 66 (.load false 1 (.t 65)) [2, 3, 4],xm 67 4,xm 68 9,yo 69 (.iaddr 1 (.t 67) (.t 68)) [6, 7],yo 70 (.load false 1 (.t 69)) [6, 7, 8],xm 71 11,yo 72 (.agg [(.int .i64 0),(.int .i64 0)] [(0, 1, (.t 70)),(1, 1, (.t 71))]) [6, 7, 8, 9, 10],yo 73 (.lst 55 2 [(.int .i64 0),(.int .i64 0)] 1 [(0, (.t 72))]) [6, 7, 8, 9, 10, 11],yo 74 (.app 55 2 16 (.t 66) (.t 73)) [2, 3, 4, 5, 6, 7, 8, 9, 10, 11, 12],yo 75 (.iaddr 1 (.t 61) (.t 62)) [0, 1, 2, 3, 4, 5, 6, 7, 8, 9, 10, 11, 12, 13],⟨none, none, .store true 1 (.t 75) (.t 74), [0, 1, 2, 3, 4, 5, 6, 7, 8, 9, 10, 11, 12, 13, 14]⟩] (rng 61 15))
def c1006_4 : ACode :=
(.seq (.reg [xm 40 5,xo 41 (.len 1 (.t 40)),xo 42 (.mov (ki 0))] [])
(.block 2 (.loop true (.seq (.reg [xo 43 (.bin .lss 0 (.t 42) (.t 41))] [])
(.seq (.cond (.t 43) [43] .skip (.exit 2))
(.seq (.block 3 (.seq (.reg [xm 44 42,xo 45 (.iaddr 1 (.t 40) (.t 42)),xo 46 (.load false 1 (.t 45)),xm 9 44,xm 10 46] [44,45,46])
(.seq (.reg [xo 11 (.mov (ki 1114111))] [])
(.seq c1006_2
c1006_3))))
(.reg [xo 76 (.bin .add 0 (.t 42) (ki 1)),xm 42 76] [76])))))))
def c1006_5 : ACode :=
(.seq (.reg [xo 84 (.iaddr 1 (.t 80) (.t 82)),xo 85 (.load false 1 (.t 84)),xm 14 85] [84,85])
(.seq (.reg [xm 87 14,xo 88 (.call 28 [(true, (.t 87))]),xm 86 88,xo 89 (.ext (.t 86) 0),xo 90 (.ext (.t 86) 1),xm 15 89,xm 16 90] [16,86,87,88,89,90])
(.reg [xm 91 12,xm 92 15,xo 93 (.lst 46 1 [(.list 2 [])] 1 [(0, (.t 92))]),xo 94 (.app 46 1 24 (.t 91) (.t 93)),xm 12 94] (rng 91 4))))
def c1006_6 : ACode :=
(.seq (.seq (.reg [xm 77 8,xo 78 (.len 1 (.t 77)),xo 79 (.bin .gtr 0 (.t 78) (ki 256))] [77,78])
(.cond (.t 79) [79] (.seq (.reg [xo 2 (.anil 46 1),xo 3 (.mov kf)] [])
.ret) .skip))
(.seq (.reg [xo 12 (.anil 46 1)] [])
(.seq (.seq (.reg [xm 80 8,xo 81 (.len 1 (.t 80)),xo 82 (.mov (ki 0))] [])
(.block 4 (.loop false (.seq (.reg [xo 83 (.bin .lss 0 (.t 82) (.t 81))] [])
(.seq (.cond (.t 83) [83] .skip (.exit 4))
(.seq (.block 5 c1006_5)
(.reg [xo 95 (.bin .add 0 (.t 82) (ki 1)),xm 82 95] [95])))))))
(.seq (.reg [xm 96 12,xm 2 96,xo 3 (.mov kt)] [96])
.ret))))
def c1006_7 : ACode :=
(.seq (.seq (.reg [xm 17 0,xo 18 (.call 23 [(true, (.t 17))]),xo 19 (.un .not (.t 18))] [17,18])
(.cond (.t 19) [19] (.seq (.reg [xo 2 (.anil 46 1),xo 3 (.mov kf)] [])
.ret) .skip))
(.seq (.reg [xm 20 0,xo 21 (.call 24 [(true, (.t 20))]),xm 4 21] [20,21])
(.seq (.reg [xm 22 4,xo 23 (.len 1 (.t 22)),xo 24 (.mks 3 1 8 [(.int .i64 0)] (.t 23)),xm 5 24] [22,23,24])
(.seq c1006_1
(.seq (.reg [xm 36 5,xo 37 (.call 26 [(true, (.t 36))]),xo 38 (.bin .add 0 (.t 37) (ki 1)),xo 39 (.mks 45 1 24 [.nils] (.t 38)),xm 8 39] (rng 36 4))
(.seq c1006_4
c1006_6))))))
def c1006 : ACode :=
(.seq (.reg [xo 2 (.anil 46 1),xo 3 (.mov kf)] [])
c1006_7)
/-- caesura/refine.Parts -/
def fn1006 : AFn := ⟨1, 97, c1006, [(.t 2),(.t 3)], 0⟩
theorem fn1006_body : fn1006.body = c1006 := rfl
theorem fn1006_res : fn1006.res = [(.t 2), (.t 3)] := rfl
theorem fn1006_keep : fn1006.keep = 0 := rfl
def c1007_1 : ACode :=
(.dreg [xm 59 0,xm 60 12,yo 61 (.iaddr 1 (.t 59) (.t 60)) [0, 1],yo 62 (.load false 1 (.t 61)) [0, 1, 2],xm 63 5,xm 64 8,yo 65 (.iaddr 1 (.t 63) (.t 64)) [4, 5],yo 66 (.load false 1 (.t 65)) [4, 5, 6],yo 67 (.call 30 [(true, (.t 62)),(true, (.t 66))]) [0, 1, 2, 3, 4, 5, 6, 7],xm 68 0,xm 69 12,yo 70 (.iaddr 1 (.t 68) (.t 69)) [9, 10],yo 71 (.load false 1 (.t 70)) [9, 10, 11],xm 72 5,xm 73 10,yo 74 (.iaddr 1 (.t 72) (.t 73)) [13, 14],yo 75 (.load false 1 (.t 74)) [13, 14, 15],yo 76 (.call 30 [(true, (.t 71)),(true, (.t 75))]) [0, 1, 2, 3, 4, 5, 6, 7, 8, 9, 10, 11, 12, 13, 14, 15, 16],yo 77 (.bin .eql 1 (.t 67) (.t 76)) [0, 1, 2, 3, 4, 5, 6, 7, 8, 9, 10, 11, 12, 13, 14, 15, 16, 17],ym 11 77 (rng 0 19)] (rng 59 19))
def c1007_2 : ACode :=
(.seq (.seq (.reg [xo 12 (.mov (ki 0))] [])
(.block 6 (.loop false (.seq (.seq (.reg [xm 50 12,xm 51 0,xo 52 (.len 1 (.t 51)),xo 53 (.bin .lss 0 (.t 50) (.t 52)),xm 54 53,xt 55 54 (.mov (.t 11)),xo 56 (.pick (.t 54) (.t 55) kf)] (rng 50 6))
(.cond (.t 56) [56] .skip (.exit 6)))
(.seq (.block 7 c1007_1)
(.reg [xm 57 12,xo 58 (.bin .add 0 (.t 57) (ki 1)),xm 12 58] [57,58]))))))
(.seq (.reg [xm 78 9,xm 79 10,xm 80 11,xo 81 (.iaddr 1 (.t 78) (.t 79)),xn (.store false 1 (.t 81) (.t 80))] (rng 78 4))
(.reg [xm 82 6,xm 83 10,xm 84 6,xm 85 10,xo 86 (.iaddr 1 (.t 84) (.t 85)),xo 87 (.load false 1 (.t 86)),xm 88 87,xf 89 88 (.mov (.t 11)),xo 90 (.pick (.t 88) kt (.t 89)),xo 91 (.iaddr 1 (.t 82) (.t 83)),xn (.store false 1 (.t 91) (.t 90))] (rng 82 10))))
def c1007_3 : ACode :=
(.seq (.seq (.reg [xm 43 8,xm 10 43] [43])
(.block 4 (.loop false (.seq (.seq (.reg [xm 44 10,xm 45 5,xo 46 (.len 1 (.t 45)),xo 47 (.bin .lss 0 (.t 44) (.t 46))] [44,45,46])
(.cond (.t 47) [47] .skip (.exit 4)))
(.seq (.block 5 (.seq (.reg [xo 11 (.mov kt)] [])
c1007_2))
(.reg [xm 48 10,xo 49 (.bin .add 0 (.t 48) (ki 1)),xm 10 49] [48,49]))))))
(.seq (.reg [xm 92 7,xm 93 5,xm 94 9,xo 95 (.call 31 [(true, (.t 93)),(true, (.t 94))]),xo 96 (.mkl 46 1 [(.list 2 [])] 1 [(0, (.t 95))] false),xo 97 (.app 46 1 24 (.t 92) (.t 96)),xm 7 97] (rng 92 6))
(.seq (.reg [xm 98 7,xo 99 (.len 1 (.t 98)),xo 100 (.bin .gtr 0 (.t 99) (ki 256))] [98,99])
(.cond (.t 100) [100] (.seq (.reg [xo 2 (.anil 46 1),xo 3 (.mov kf)] [])
.ret) .skip))))
def c1007_4 : ACode :=
(.seq (.reg [xm 27 5,xo 28 (.len 1 (.t 27)),xo 29 (.mks 4 1 1 [(.bool false)] (.t 28)),xm 6 29] [27,28,29])
(.seq (.reg [xo 7 (.anil 46 1)] [])
(.seq (.seq (.reg [xo 8 (.mov (ki 0))] [])
(.block 2 (.loop false (.seq (.seq (.reg [xm 30 8,xm 31 5,xo 32 (.len 1 (.t 31)),xo 33 (.bin .lss 0 (.t 30) (.t 32))] [30,31,32])
(.cond (.t 33) [33] .skip (.exit 2)))
(.seq (.block 3 (.seq (.seq (.reg [xm 36 6,xm 37 8,xo 38 (.iaddr 1 (.t 36) (.t 37)),xo 39 (.load false 1 (.t 38))] [36,37,38])
(.cond (.t 39) [39] (.exit 3) .skip))
(.seq (.reg [xm 40 5,xo 41 (.len 1 (.t 40)),xo 42 (.mks 4 1 1 [(.bool false)] (.t 41)),xm 9 42] [40,41,42])
c1007_3)))
(.reg [xm 34 8,xo 35 (.bin .add 0 (.t 34) (ki 1)),xm 8 35] [34,35]))))))
(.seq (.reg [xm 101 7,xm 2 101,xo 3 (.mov kt)] [101])
.ret))))
def c1007 : ACode :=
(.seq (.reg [xo 2 (.anil 46 1),xo 3 (.mov kf)] [])
(.seq (.seq (.reg [xo 4 (.mov (ki 0))] [])
(.block 0 (.loop false (.seq (.seq (.reg [xm 13 4,xm 14 0,xo 15 (.len 1 (.t 14)),xo 16 (.bin .lss 0 (.t 13) (.t 15))] [13,14,15])
(.cond (.t 16) [16] .skip (.exit 0)))
(.seq (.block 1 (.seq (.reg [xm 19 0,xm 20 4,xo 21 (.iaddr 1 (.t 19) (.t 20)),xo 22 (.load false 1 (.t 21)),xo 23 (.call 19 [(true, (.t 22))]),xo 24 (.un .not (.t 23))] (rng 19 5))
(.cond (.t 24) [24] (.seq (.reg [xo 2 (.anil 46 1),xo 3 (.mov kf)] [])
.ret) .skip)))
(.reg [xm 17 4,xo 18 (.bin .add 0 (.t 17) (ki 1)),xm 4 18] [17,18]))))))
(.seq (.reg [xm 25 0,xo 26 (.call 29 [(true, (.t 25))]),xm 5 26] [25,26])
c1007_4)))
/-- caesura/caesuraref04.Parts -/
def fn1007 : AFn := ⟨1, 102, c1007, [(.t 2),(.t 3)], 0⟩
theorem fn1007_body : fn1007.body = c1007 := rfl
theorem fn1007_res : fn1007.res = [(.t 2), (.t 3)] := rfl
theorem fn1007_keep : fn1007.keep = 0 := rfl
def c1008 : ACode :=
(.seq (.reg [xo 2 (.anil 40 2),xo 3 (.mov kf)] [])
(.seq (.seq (.reg [xm 14 0,xo 15 (.call 23 [(true, (.t 14))]),xo 16 (.un .not (.t 15))] [14,15])
(.cond (.t 16) [16] (.seq (.reg [xo 2 (.anil 40 2),xo 3 (.mov kf)] [])
.ret) .skip))
(.seq (.reg [xo 4 (.anil 69 3)] [])
(.seq (.seq (.reg [xm 17 0,xo 18 (.len 1 (.t 17)),xo 19 (.mov (ki 0))] [])
(.block 0 (.loop false (.seq (.reg [xo 20 (.bin .lss 0 (.t 19) (.t 18))] [])
(.seq (.cond (.t 20) [20] .skip (.exit 0))
(.seq (.block 1 (.seq (.reg [xm 21 19,xo 22 (.iaddr 1 (.t 17) (.t 19)),xo 23 (.load false 1 (.t 22)),xm 5 21,xm 6 23] [21,22,23])
(.seq (.seq (.reg [xm 24 6,xo 25 (.len 1 (.t 24)),xo 26 (.bin .eql 0 (.t 25) (ki 0))] [24,25])
(.cond (.t 26) [26] (.seq (.reg [xo 2 (.anil 40 2),xo 3 (.mov kf)] [])
.ret) .skip))
(.seq (.reg [xm 27 6,xo 28 (.len 1 (.t 27)),xo 29 (.mov (ki 0))] [])
(.block 2 (.loop false (.seq (.reg [xo 30 (.bin .lss 0 (.t 29) (.t 28))] [])
(.seq (.cond (.t 30) [30] .skip (.exit 2))
(.seq (.block 3 (.seq (.reg [xo 31 (.iaddr 2 (.t 27) (.t 29)),xo 32 (.load true 2 (.t 31)),xo 8 (.new [(.int .i64 0),(.int .i64 0)]),xn (.store false 2 (.t 8) (.t 32))] [31,32])
(.reg [xm 33 4,xo 34 (.load true 2 (.t 8)),xm 35 5,xo 36 (.agg [(.int .i64 0),(.int .i64 0),(.int .i64 0)] [(0, 2, (.t 34)),(2, 1, (.t 35))]),xo 37 (.mkl 69 3 [(.int .i64 0),(.int .i64 0),(.int .i64 0)] 1 [(0, (.t 36))] false),xo 38 (.app 69 3 24 (.t 33) (.t 37)),xm 4 38] (rng 33 6))))
(.reg [xo 39 (.bin .add 0 (.t 29) (ki 1)),xm 29 39] [39]))))))))))
(.reg [xo 40 (.bin .add 0 (.t 19) (ki 1)),xm 19 40] [40])))))))
(.seq (.reg [xm 41 4,xo 42 (.call 32 [(false, (.t 41)),(false, (.k (.func 33 [])))])] [41,42])
(.seq (.reg [xo 9 (.anil 40 2)] [])
(.seq (.reg [xo 10 (.mov (ki 0)),xo 11 (.mov kt)] [])
(.seq (.seq (.reg [xm 43 4,xo 44 (.len 1 (.t 43)),xo 45 (.mov (ki 0))] [])
(.block 4 (.loop false (.seq (.reg [xo 46 (.bin .lss 0 (.t 45) (.t 44))] [])
(.seq (.cond (.t 46) [46] .skip (.exit 4))
(.seq (.block 5 (.seq (.reg [xo 47 (.iaddr 3 (.t 43) (.t 45)),xo 48 (.load true 3 (.t 47)),xo 13 (.new [(.int .i64 0),(.int .i64 0),(.int .i64 0)]),xn (.store false 3 (.t 13) (.t 48))] [47,48])
(.seq (.seq (.reg [xm 49 11,xo 50 (.un .not (.t 49)),xm 51 50,xf 52 51 (.faddr 0 (.t 13)),xf 53 51 (.faddr 0 (.t 52)),xf 54 51 (.load false 1 (.t 53)),xf 55 51 (.mov (.t 10)),xf 56 51 (.bin .neq 0 (.t 54) (.t 55)),xo 57 (.pick (.t 51) kt (.t 56))] (rng 49 8))
(.cond (.t 57) [57] (.seq (.reg [xo 2 (.anil 40 2),xo 3 (.mov kf)] [])
.ret) .skip))
(.seq (.reg [xm 58 9,xm 59 10,xo 60 (.faddr 2 (.t 13)),xo 61 (.load false 1 (.t 60)),xo 62 (.agg [(.int .i64 0),(.int .i64 0)] [(0, 1, (.t 59)),(1, 1, (.t 61))]),xo 63 (.mkl 40 2 [(.int .i64 0),(.int .i64 0)] 1 [(0, (.t 62))] false),xo 64 (.app 40 2 16 (.t 58) (.t 63)),xm 9 64] (rng 58 7))
(.reg [xo 66 (.faddr 0 (.t 13)),xo 67 (.faddr 1 (.t 66)),xo 68 (.load false 1 (.t 67)),xo 69 (.call 35 [(true, (.t 68))]),xm 65 69,xo 70 (.ext (.t 65) 0),xo 71 (.ext (.t 65) 1),xm 10 70,xm 11 71] (rng 65 7))))))
(.reg [xo 72 (.bin .add 0 (.t 45) (ki 1)),xm 45 72] [72])))))))
(.seq (.seq (.reg [xm 73 11] [])
(.cond (.t 73) [73] (.seq (.reg [xo 2 (.anil 40 2),xo 3 (.mov kf)] [])
.ret) .skip))
(.seq (.reg [xm 74 9,xm 2 74,xo 3 (.mov kt)] [74])
.ret))))))))))
/-- caesura/refine.Bands -/
def fn1008 : AFn := ⟨1, 75, c1008, [(.t 2),(.t 3)], 0⟩
theorem fn1008_body : fn1008.body = c1008 := rfl
theorem fn1008_res : fn1008.res = [(.t 2), (.t 3)] := rfl
theorem fn1008_keep : fn1008.keep = 0 := rfl
def c1009 : ACode :=
(.seq (.reg [xo 2 (.anil 40 2),xo 3 (.mov kf)] [])
(.seq (.seq (.reg [xo 4 (.mov (ki 0))] [])
(.block 0 (.loop false (.seq (.seq (.reg [xm 11 4,xm 12 0,xo 13 (.len 1 (.t 12)),xo 14 (.bin .lss 0 (.t 11) (.t 13))] [11,12,13])
(.cond (.t 14) [14] .skip (.exit 0)))
(.seq (.block 1 (.seq (.reg [xm 17 0,xm 18 4,xo 19 (.iaddr 1 (.t 17) (.t 18)),xo 20 (.load false 1 (.t 19)),xo 21 (.call 19 [(true, (.t 20))]),xo 22 (.un .not (.t 21)),xm 23 22,xf 24 23 (.mov (.t 0)),xf 25 23 (.mov (.t 4)),xf 26 23 (.iaddr 1 (.t 24) (.t 25)),xf 27 23 (.load false 1 (.t 26)),xf 28 23 (.len 1 (.t 27)),xf 29 23 (.bin .eql 0 (.t 28) (ki 0)),xo 30 (.pick (.t 23) kt (.t 29))] (rng 17 13))
(.cond (.t 30) [30] (.seq (.reg [xo 2 (.anil 40 2),xo 3 (.mov kf)] [])
.ret) .skip)))
(.reg [xm 15 4,xo 16 (.bin .add 0 (.t 15) (ki 1)),xm 4 16] [15,16]))))))
(.seq (.reg [xm 31 0,xo 32 (.call 29 [(true, (.t 31))]),xm 5 32] [31,32])
(.seq (.reg [xo 6 (.anil 40 2)] [])
(.seq (.seq (.reg [xo 7 (.mov (ki 0))] [])
(.block 2 (.loop false (.seq (.seq (.reg [xm 33 7,xm 34 5,xo 35 (.len 1 (.t 34)),xo 36 (.bin .lss 0 (.t 33) (.t 35))] [33,34,35])
(.cond (.t 36) [36] .skip (.exit 2)))
(.seq (.block 3 (.seq (.reg [xo 8 (.mov (ki 0)),xo 9 (.mov (ki 0))] [])
(.seq (.seq (.reg [xo 10 (.mov (ki 0))] [])
(.block 4 (.loop false (.seq (.seq (.reg [xm 39 10,xm 40 0,xo 41 (.len 1 (.t 40)),xo 42 (.bin .lss 0 (.t 39) (.t 41))] [39,40,41])
(.cond (.t 42) [42] .skip (.exit 4)))
(.seq (.block 5 (.seq (.dreg [xm 45 0,xm 46 10,yo 47 (.iaddr 1 (.t 45) (.t 46)) [0, 1],yo 48 (.load false 1 (.t 47)) [0, 1, 2],xm 49 5,xm 50 7,yo 51 (.iaddr 1 (.t 49) (.t 50)) [4, 5],yo 52 (.load false 1 (.t 51)) [4, 5, 6],yo 53 (.call 30 [(true, (.t 48)),(true, (.t 52))]) (rng 0 8)] (rng 45 8))
(.cond (.t 53) [53] (.seq (.reg [xm 54 10,xm 8 54] [54])
(.reg [xm 55 9,xo 56 (.bin .add 0 (.t 55) (ki 1)),xm 9 56] [55,56])) .skip)))
(.reg [xm 43 10,xo 44 (.bin .add 0 (.t 43) (ki 1)),xm 10 44] [43,44]))))))
(.seq (.seq (.reg [xm 57 9,xo 58 (.bin .neq 0 (.t 57) (ki 1))] [57])
(.cond (.t 58) [58] (.seq (.reg [xo 2 (.anil 40 2),xo 3 (.mov kf)] [])
.ret) .skip))
(.seq (.reg [xm 59 6,xo 60 (.len 1 (.t 59)),xo 61 (.bin .eql 0 (.t 60) (ki 0)),xm 62 61,xf 63 62 (.mov (.t 6)),xf 64 62 (.mov (.t 6)),xf 65 62 (.len 1 (.t 64)),xf 66 62 (.bin .sub 0 (.t 65) (ki 1)),xf 67 62 (.iaddr 2 (.t 63) (.t 66)),xf 68 62 (.faddr 1 (.t 67)),xf 69 62 (.load false 1 (.t 68)),xf 70 62 (.mov (.t 8)),xf 71 62 (.bin .neq 0 (.t 69) (.t 70)),xo 72 (.pick (.t 62) kt (.t 71))] (rng 59 13))
(.cond (.t 72) [72] (.reg [xm 73 6,xm 74 5,xm 75 7,xo 76 (.iaddr 1 (.t 74) (.t 75)),xo 77 (.load false 1 (.t 76)),xm 78 8,xo 79 (.agg [(.int .i64 0),(.int .i64 0)] [(0, 1, (.t 77)),(1, 1, (.t 78))]),xo 80 (.mkl 40 2 [(.int .i64 0),(.int .i64 0)] 1 [(0, (.t 79))] false),xo 81 (.app 40 2 16 (.t 73) (.t 80)),xm 6 81] (rng 73 9)) .skip))))))
(.reg [xm 37 7,xo 38 (.bin .add 0 (.t 37) (ki 1)),xm 7 38] [37,38]))))))
(.seq (.reg [xm 82 6,xm 2 82,xo 3 (.mov kt)] [82])
.ret))))))
/-- caesura/caesuraref04.Bands -/
def fn1009 : AFn := ⟨1, 83, c1009, [(.t 2),(.t 3)], 0⟩
theorem fn1009_body : fn1009.body = c1009 := rfl
theorem fn1009_res : fn1009.res = [(.t 2), (.t 3)] := rfl
theorem fn1009_keep : fn1009.keep = 0 := rfl
def c1010 : ACode :=
(.seq (.reg [xo 4 (.mov (ki 0)),xo 5 (.mov kf)] [])
(.seq (.seq (.reg [xm 7 1,xo 8 (.call 36 [(true, (.t 7))]),xo 9 (.un .not (.t 8))] [7,8])
(.cond (.t 9) [9] (.seq (.reg [xo 4 (.mov (ki 0)),xo 5 (.mov kf)] [])
.ret) .skip))
(.seq (.seq (.reg [xm 10 0,xo 11 (.len 1 (.t 10)),xo 12 (.bin .sub 0 (.t 11) (ki 1)),xm 6 12] [10,11,12])
(.block 0 (.loop false (.seq (.seq (.reg [xm 13 6,xo 14 (.bin .geq 0 (.t 13) (ki 0))] [13])
(.cond (.t 14) [14] .skip (.exit 0)))
(.seq (.block 1 (.seq (.reg [xm 17 0,xm 18 6,xo 19 (.iaddr 2 (.t 17) (.t 18)),xo 20 (.faddr 0 (.t 19)),xo 21 (.load false 1 (.t 20)),xm 22 1,xo 23 (.bin .leq 0 (.t 21) (.t 22))] (rng 17 6))
(.cond (.t 23) [23] (.seq (.reg [xm 24 0,xm 25 6,xo 26 (.iaddr 2 (.t 24) (.t 25)),xo 27 (.faddr 1 (.t 26)),xo 28 (.load false 1 (.t 27)),xm 4 28,xo 5 (.mov kt)] (rng 24 5))
.ret) .skip)))
(.reg [xm 15 6,xo 16 (.bin .sub 0 (.t 15) (ki 1)),xm 6 16] [15,16]))))))
(.seq (.reg [xo 4 (.mov (ki 0)),xo 5 (.mov kf)] [])
.ret))))
/-- caesura/refine.Of -/
def fn1010 : AFn := ⟨2, 29, c1010, [(.t 4),(.t 5)], 0⟩
theorem fn1010_body : fn1010.body = c1010 := rfl
theorem fn1010_res : fn1010.res = [(.t 4), (.t 5)] := rfl
theorem fn1010_keep : fn1010.keep = 0 := rfl
def c1011 : ACode :=
(.seq (.reg [xo 4 (.mov (ki 0))] [])
(.seq (.reg [xo 5 (.mov (.k (.int .i64 (-1))))] [])
(.seq (.seq (.reg [xo 6 (.mov (ki 0))] [])
(.block 0 (.loop false (.seq (.seq (.reg [xm 7 6,xm 8 0,xo 9 (.len 1 (.t 8)),xo 10 (.bin .lss 0 (.t 7) (.t 9)),xm 11 10,xt 12 11 (.mov (.t 1)),xt 13 11 (.call 37 [(true, (.t 12))]),xo 14 (.pick (.t 11) (.t 13) kf)] (rng 7 7))
(.cond (.t 14) [14] .skip (.exit 0)))
(.seq (.block 1 (.seq (.reg [xm 17 0,xm 18 6,xo 19 (.iaddr 2 (.t 17) (.t 18)),xo 20 (.faddr 0 (.t 19)),xo 21 (.load false 1 (.t 20)),xm 22 1,xo 23 (.bin .leq 0 (.t 21) (.t 22))] (rng 17 6))
(.cond (.t 23) [23] (.reg [xm 24 6,xm 5 24] [24]) .skip)))
(.reg [xm 15 6,xo 16 (.bin .add 0 (.t 15) (ki 1)),xm 6 16] [15,16]))))))
(.seq (.reg [xm 25 5,xm 4 25] [25])
.ret))))
/-- caesura/caesuraref04.Of -/
def fn1011 : AFn := ⟨2, 26, c1011, [(.t 4)], 0⟩
theorem fn1011_body : fn1011.body = c1011 := rfl
theorem fn1011_res : fn1011.res = [(.t 4)] := rfl
theorem fn1011_keep : fn1011.keep = 0 := rfl
def c1012 : ACode :=
(.seq (.reg [xo 4 (.anil 56 1),xo 5 (.mov kf)] [])
(.seq (.seq (.reg [xm 14 0,xo 15 (.call 23 [(true, (.t 14))]),xo 16 (.un .not (.t 15)),xm 17 16,xf 18 17 (.mov (.t 1)),xf 19 17 (.call 23 [(true, (.t 18))]),xf 20 17 (.un .not (.t 19)),xo 21 (.pick (.t 17) kt (.t 20))] (rng 14 7))
(.cond (.t 21) [21] (.seq (.reg [xo 4 (.anil 56 1),xo 5 (.mov kf)] [])
.ret) .skip))
(.seq (.reg [xo 6 (.anil 56 1)] [])
(.seq (.seq (.reg [xm 22 0,xo 23 (.len 1 (.t 22)),xo 24 (.mov (ki 0))] [])
(.block 0 (.loop false (.seq (.reg [xo 25 (.bin .lss 0 (.t 24) (.t 23))] [])
(.seq (.cond (.t 25) [25] .skip (.exit 0))
(.seq (.block 1 (.seq (.reg [xo 26 (.iaddr 1 (.t 22) (.t 24)),xo 27 (.load false 1 (.t 26)),xm 8 27] [26,27])
(.seq (.reg [xo 9 (.anil 3 1)] [])
(.seq (.seq (.reg [xm 28 1,xo 29 (.len 1 (.t 28)),xo 30 (.mov (ki 0))] [])
(.block 2 (.loop false (.seq (.reg [xo 31 (.bin .lss 0 (.t 30) (.t 29))] [])
(.seq (.cond (.t 31) [31] .skip (.exit 2))
(.seq (.block 3 (.seq (.reg [xm 32 30,xo 33 (.iaddr 1 (.t 28) (.t 30)),xo 34 (.load false 1 (.t 33)),xm 10 32,xm 11 34] [32,33,34])
(.seq (.reg [xm 36 8,xm 37 11,xo 38 (.call 38 [(true, (.t 36)),(true, (.t 37))]),xm 35 38,xo 39 (.ext (.t 35) 0),xo 40 (.ext (.t 35) 1),xm 12 39,xm 13 40] [13,35,36,37,38,39,40])
(.block 4 (.seq (.reg [xm 42 12,xm 43 11,xo 44 (.call 39 [(true, (.t 42)),(true, (.t 43))]),xm 41 44] [42,43,44])
(.cond (.t 41) [41] (.reg [xm 45 9,xm 46 10,xo 47 (.mkl 3 1 [(.int .i64 0)] 1 [(0, (.t 46))] false),xo 48 (.app 3 1 8 (.t 45) (.t 47)),xm 9 48] (rng 45 4)) (.seq (.reg [xm 50 12,xo 51 (.len 1 (.t 50)),xo 52 (.bin .gtr 0 (.t 51) (ki 0)),xm 49 52] [50,51,52])
(.cond (.t 49) [49] (.seq (.reg [xo 4 (.anil 56 1),xo 5 (.mov kf)] [])
.ret) .skip))))))))
(.reg [xo 53 (.bin .add 0 (.t 30) (ki 1)),xm 30 53] [53])))))))
(.reg [xm 54 6,xm 55 9,xo 56 (.mkl 56 1 [(.list 1 [])] 1 [(0, (.t 55))] false),xo 57 (.app 56 1 24 (.t 54) (.t 56)),xm 6 57] (rng 54 4))))))
(.reg [xo 58 (.bin .add 0 (.t 24) (ki 1)),xm 24 58] [58])))))))
(.seq (.reg [xm 59 6,xm 4 59,xo 5 (.mov kt)] [59])
.ret)))))
/-- caesura/refine.Within -/
def fn1012 : AFn := ⟨2, 60, c1012, [(.t 4),(.t 5)], 0⟩
theorem fn1012_body : fn1012.body = c1012 := rfl
theorem fn1012_res : fn1012.res = [(.t 4), (.t 5)] := rfl
theorem fn1012_keep : fn1012.keep = 0 := rfl
def c1013 : ACode :=
(.seq (.reg [xo 4 (.anil 56 1),xo 5 (.mov kf)] [])
(.seq (.reg [xo 6 (.anil 56 1)] [])
(.seq (.seq (.reg [xo 7 (.mov (ki 0))] [])
(.block 0 (.loop false (.seq (.seq (.reg [xm 12 7,xm 13 1,xo 14 (.len 1 (.t 13)),xo 15 (.bin .lss 0 (.t 12) (.t 14))] [12,13,14])
(.cond (.t 15) [15] .skip (.exit 0)))
(.seq (.block 1 (.seq (.reg [xm 18 1,xm 19 7,xo 20 (.iaddr 1 (.t 18) (.t 19)),xo 21 (.load false 1 (.t 20)),xo 22 (.call 19 [(true, (.t 21))]),xo 23 (.un .not (.t 22))] (rng 18 5))
(.cond (.t 23) [23] (.seq (.reg [xo 4 (.anil 56 1),xo 5 (.mov kf)] [])
.ret) .skip)))
(.reg [xm 16 7,xo 17 (.bin .add 0 (.t 16) (ki 1)),xm 7 17] [16,17]))))))
(.seq (.seq (.reg [xo 8 (.mov (ki 0))] [])
(.block 2 (.loop false (.seq (.seq (.reg [xm 24 8,xm 25 0,xo 26 (.len 1 (.t 25)),xo 27 (.bin .lss 0 (.t 24) (.t 26))] [24,25,26])
(.cond (.t 27) [27] .skip (.exit 2)))
(.seq (.block 3 (.seq (.seq (.reg [xm 30 0,xm 31 8,xo 32 (.iaddr 1 (.t 30) (.t 31)),xo 33 (.load false 1 (.t 32)),xo 34 (.call 19 [(true, (.t 33))]),xo 35 (.un .not (.t 34))] (rng 30 5))
(.cond (.t 35) [35] (.seq (.reg [xo 4 (.anil 56 1),xo 5 (.mov kf)] [])
.ret) .skip))
(.seq (.reg [xo 9 (.anil 3 1)] [])
(.seq (.seq (.reg [xo 10 (.mov (ki 0))] [])
(.block 4 (.loop false (.seq (.seq (.reg [xm 36 10,xm 37 1,xo 38 (.len 1 (.t 37)),xo 39 (.bin .lss 0 (.t 36) (.t 38))] [36,37,38])
(.cond (.t 39) [39] .skip (.exit 4)))
(.seq (.block 5 (.seq (.dreg [xm 42 0,xm 43 8,yo 44 (.iaddr 1 (.t 42) (.t 43)) [0, 1],yo 45 (.load false 1 (.t 44)) [0, 1, 2],xm 46 1,xm 47 10,yo 48 (.iaddr 1 (.t 46) (.t 47)) [4, 5],yo 49 (.load false 1 (.t 48)) [4, 5, 6],yo 50 (.call 20 [(true, (.t 45)),(true, (.t 49))]) [0, 1, 2, 3, 4, 5, 6, 7],yo 51 (.fld false 0 1 (.t 50)) [0, 1, 2, 3, 4, 5, 6, 7, 8],yo 52 (.call 40 [(true, (.t 51))]) [0, 1, 2, 3, 4, 5, 6, 7, 8, 9],ym 11 52 (rng 0 11)] (rng 42 11))
(.seq (.reg [xm 53 11,xm 54 1,xm 55 10,xo 56 (.iaddr 1 (.t 54) (.t 55)),xo 57 (.load false 1 (.t 56)),xo 58 (.call 40 [(true, (.t 57))]),xo 59 (.bin .eql 0 (.t 53) (.t 58))] (rng 53 6))
(.cond (.t 59) [59] (.reg [xm 60 9,xm 61 10,xo 62 (.mkl 3 1 [(.int .i64 0)] 1 [(0, (.t 61))] false),xo 63 (.app 3 1 8 (.t 60) (.t 62)),xm 9 63] (rng 60 4)) (.seq (.reg [xm 64 11,xo 65 (.bin .gtr 0 (.t 64) (ki 0))] [64])
(.cond (.t 65) [65] (.seq (.reg [xo 4 (.anil 56 1),xo 5 (.mov kf)] [])
.ret) .skip))))))
(.reg [xm 40 10,xo 41 (.bin .add 0 (.t 40) (ki 1)),xm 10 41] [40,41]))))))
(.reg [xm 66 6,xm 67 9,xo 68 (.mkl 56 1 [(.list 1 [])] 1 [(0, (.t 67))] false),xo 69 (.app 56 1 24 (.t 66) (.t 68)),xm 6 69] (rng 66 4))))))
(.reg [xm 28 8,xo 29 (.bin .add 0 (.t 28) (ki 1)),xm 8 29] [28,29]))))))
(.seq (.reg [xm 70 6,xm 4 70,xo 5 (.mov kt)] [70])
.ret)))))
/-- caesura/caesuraref04.Within -/
def fn1013 : AFn := ⟨2, 71, c1013, [(.t 4),(.t 5)], 0⟩
theorem fn1013_body : fn1013.body = c1013 := rfl
theorem fn1013_res : fn1013.res = [(.t 4), (.t 5)] := rfl
theorem fn1013_keep : fn1013.keep = 0 := rfl
def c1014 : ACode :=
(.seq (.reg [xo 4 (.mov kf)] [])
(.seq (.seq (.reg [xm 6 0,xo 7 (.len 1 (.t 6)),xm 8 1,xo 9 (.len 1 (.t 8)),xo 10 (.bin .neq 0 (.t 7) (.t 9))] (rng 6 4))
(.cond (.t 10) [10] (.seq (.reg [xo 4 (.mov kf)] [])
.ret) .skip))
(.seq (.seq (.reg [xo 5 (.mov (ki 0))] [])
(.block 0 (.loop false (.seq (.seq (.reg [xm 11 5,xm 12 0,xo 13 (.len 1 (.t 12)),xo 14 (.bin .lss 0 (.t 11) (.t 13))] [11,12,13])
(.cond (.t 14) [14] .skip (.exit 0)))
(.seq (.block 1 (.seq (.dreg [xm 17 0,xm 18 5,yo 19 (.iaddr 1 (.t 17) (.t 18)) [0, 1],yo 20 (.load false 1 (.t 19)) [0, 1, 2],xm 21 1,xm 22 5,yo 23 (.iaddr 1 (.t 21) (.t 22)) [4, 5],yo 24 (.load false 1 (.t 23)) [4, 5, 6],yo 25 (.call 22 [(true, (.t 20)),(true, (.t 24))]) [0, 1, 2, 3, 4, 5, 6, 7],yo 26 (.un .not (.t 25)) (rng 0 9)] (rng 17 9))
(.cond (.t 26) [26] (.seq (.reg [xo 4 (.mov kf)] [])
.ret) .skip)))
(.reg [xm 15 5,xo 16 (.bin .add 0 (.t 15) (ki 1)),xm 5 16] [15,16]))))))
(.seq (.reg [xo 4 (.mov kt)] [])
.ret))))
/-- caesura/caesurakeep.Sets -/
def fn1014 : AFn := ⟨2, 27, c1014, [(.t 4)], 0⟩
theorem fn1014_body : fn1014.body = c1014 := rfl
theorem fn1014_res : fn1014.res = [(.t 4)] := rfl
theorem fn1014_keep : fn1014.keep = 0 := rfl
def c1015 : ACode :=
(.seq (.reg [xo 4 (.mov kf)] [])
(.seq (.seq (.reg [xm 6 0,xo 7 (.len 1 (.t 6)),xm 8 1,xo 9 (.len 1 (.t 8)),xo 10 (.bin .neq 0 (.t 7) (.t 9))] (rng 6 4))
(.cond (.t 10) [10] (.seq (.reg [xo 4 (.mov kf)] [])
.ret) .skip))
(.seq (.seq (.reg [xo 5 (.mov (ki 0))] [])
(.block 0 (.loop false (.seq (.seq (.reg [xm 11 5,xm 12 0,xo 13 (.len 1 (.t 12)),xo 14 (.bin .lss 0 (.t 11) (.t 13))] [11,12,13])
(.cond (.t 14) [14] .skip (.exit 0)))
(.seq (.block 1 (.seq (.dreg [xm 17 0,xm 18 5,yo 19 (.iaddr 2 (.t 17) (.t 18)) [0, 1],yo 20 (.load true 2 (.t 19)) [0, 1, 2],xm 21 1,xm 22 5,yo 23 (.iaddr 2 (.t 21) (.t 22)) [4, 5],yo 24 (.load true 2 (.t 23)) [4, 5, 6],yo 25 (.bins .neq [0,0] (.t 20) (.t 24)) (rng 0 8)] (rng 17 8))
(.cond (.t 25) [25] (.seq (.reg [xo 4 (.mov kf)] [])
.ret) .skip)))
(.reg [xm 15 5,xo 16 (.bin .add 0 (.t 15) (ki 1)),xm 5 16] [15,16]))))))
(.seq (.reg [xo 4 (.mov kt)] [])
.ret))))
/-- caesura/caesurakeep.Bands -/
def fn1015 : AFn := ⟨2, 26, c1015, [(.t 4)], 0⟩
theorem fn1015_body : fn1015.body = c1015 := rfl
theorem fn1015_res : fn1015.res = [(.t 4)] := rfl
theorem fn1015_keep : fn1015.keep = 0 := rfl
def c1016 : ACode :=
(.seq (.reg [xo 4 (.mov kf)] [])
(.seq (.seq (.reg [xm 6 0,xo 7 (.len 1 (.t 6)),xm 8 1,xo 9 (.len 1 (.t 8)),xo 10 (.bin .neq 0 (.t 7) (.t 9))] (rng 6 4))
(.cond (.t 10) [10] (.seq (.reg [xo 4 (.mov kf)] [])
.ret) .skip))
(.seq (.seq (.reg [xo 5 (.mov (ki 0))] [])
(.block 0 (.loop false (.seq (.seq (.reg [xm 11 5,xm 12 0,xo 13 (.len 1 (.t 12)),xo 14 (.bin .lss 0 (.t 11) (.t 13))] [11,12,13])
(.cond (.t 14) [14] .skip (.exit 0)))
(.seq (.block 1 (.seq (.dreg [xm 17 0,xm 18 5,yo 19 (.iaddr 1 (.t 17) (.t 18)) [0, 1],yo 20 (.load false 1 (.t 19)) [0, 1, 2],xm 21 1,xm 22 5,yo 23 (.iaddr 1 (.t 21) (.t 22)) [4, 5],yo 24 (.load false 1 (.t 23)) [4, 5, 6],yo 25 (.call 41 [(true, (.t 20)),(true, (.t 24))]) [0, 1, 2, 3, 4, 5, 6, 7],yo 26 (.un .not (.t 25)) (rng 0 9)] (rng 17 9))
(.cond (.t 26) [26] (.seq (.reg [xo 4 (.mov kf)] [])
.ret) .skip)))
(.reg [xm 15 5,xo 16 (.bin .add 0 (.t 15) (ki 1)),xm 5 16] [15,16]))))))
(.seq (.reg [xo 4 (.mov kt)] [])
.ret))))
/-- caesura/caesurakeep.Lists -/
def fn1016 : AFn := ⟨2, 27, c1016, [(.t 4)], 0⟩
theorem fn1016_body : fn1016.body = c1016 := rfl
theorem fn1016_res : fn1016.res = [(.t 4)] := rfl
theorem fn1016_keep : fn1016.keep = 0 := rfl
def c57 : ACode :=
(.seq (.reg [xo 2 (.mov kf)] [])
(.seq (.seq (.reg [xo 3 (.mov (ki 0))] [])
(.block 0 (.loop false (.seq (.seq (.reg [xm 5 3,xm 6 0,xo 7 (.len 1 (.t 6)),xo 8 (.bin .lss 0 (.t 5) (.t 7))] [5,6,7])
(.cond (.t 8) [8] .skip (.exit 0)))
(.seq (.block 1 (.seq (.seq (.dreg [xm 11 0,xm 12 3,yo 13 (.iaddr 2 (.t 11) (.t 12)) [0, 1],yo 14 (.faddr 0 (.t 13)) [0, 1, 2],yo 15 (.load false 1 (.t 14)) [0, 1, 2, 3],yo 16 (.call 37 [(true, (.t 15))]) [0, 1, 2, 3, 4],yo 17 (.un .not (.t 16)) [0, 1, 2, 3, 4, 5],ym 18 17 [0, 1, 2, 3, 4, 5, 6],yf 19 18 (.mov (.t 0)) [0, 1, 2, 3, 4, 5, 6, 7],yf 20 18 (.mov (.t 3)) [0, 1, 2, 3, 4, 5, 6, 7],yf 21 18 (.iaddr 2 (.t 19) (.t 20)) [0, 1, 2, 3, 4, 5, 6, 7, 8, 9],yf 22 18 (.faddr 1 (.t 21)) [0, 1, 2, 3, 4, 5, 6, 7, 8, 9, 10],yf 23 18 (.load false 1 (.t 22)) [0, 1, 2, 3, 4, 5, 6, 7, 8, 9, 10, 11],yf 24 18 (.call 37 [(true, (.t 23))]) [0, 1, 2, 3, 4, 5, 6, 7, 8, 9, 10, 11, 12],yf 25 18 (.un .not (.t 24)) [0, 1, 2, 3, 4, 5, 6, 7, 8, 9, 10, 11, 12, 13],yo 26 (.pick (.t 18) kt (.t 25)) [0, 1, 2, 3, 4, 5, 6, 7, 8, 9, 10, 11, 12, 13, 14],ym 27 26 [0, 1, 2, 3, 4, 5, 6, 7, 8, 9, 10, 11, 12, 13, 14, 15],yf 28 27 (.mov (.t 0)) [0, 1, 2, 3, 4, 5, 6, 7, 8, 9, 10, 11, 12, 13, 14, 15, 16],yf 29 27 (.mov (.t 3)) [0, 1, 2, 3, 4, 5, 6, 7, 8, 9, 10, 11, 12, 13, 14, 15, 16],yf 30 27 (.iaddr 2 (.t 28) (.t 29)) [0, 1, 2, 3, 4, 5, 6, 7, 8, 9, 10, 11, 12, 13, 14, 15, 16, 17, 18],yf 31 27 (.faddr 1 (.t 30)) [0, 1, 2, 3, 4, 5, 6, 7, 8, 9, 10, 11, 12, 13, 14, 15, 16, 17, 18, 19],yf 32 27 (.load false 1 (.t 31)) [0, 1, 2, 3, 4, 5, 6, 7, 8, 9, 10, 11, 12, 13, 14, 15, 16, 17, 18, 19, 20],yf 33 27 (.mov (.t 0)) [0, 1, 2, 3, 4, 5, 6, 7, 8, 9, 10, 11, 12, 13, 14, 15, 16],yf 34 27 (.mov (.t 3)) [0, 1, 2, 3, 4, 5, 6, 7, 8, 9, 10, 11, 12, 13, 14, 15, 16],yf 35 27 (.iaddr 2 (.t 33) (.t 34)) [0, 1, 2, 3, 4, 5, 6, 7, 8, 9, 10, 11, 12, 13, 14, 15, 16, 22, 23],yf 36 27 (.faddr 0 (.t 35)) [0, 1, 2, 3, 4, 5, 6, 7, 8, 9, 10, 11, 12, 13, 14, 15, 16, 22, 23, 24],yf 37 27 (.load false 1 (.t 36)) [0, 1, 2, 3, 4, 5, 6, 7, 8, 9, 10, 11, 12, 13, 14, 15, 16, 22, 23, 24, 25],yf 38 27 (.bin .lss 0 (.t 32) (.t 37)) [0, 1, 2, 3, 4, 5, 6, 7, 8, 9, 10, 11, 12, 13, 14, 15, 16, 17, 18, 19, 20, 21, 22, 23, 24, 25, 26],yo 39 (.pick (.t 27) kt (.t 38)) (rng 0 28)] (rng 11 28))
(.cond (.t 39) [39] (.seq (.reg [xo 2 (.mov kf)] [])
.ret) .skip))
(.seq (.reg [xm 40 3,xo 41 (.bin .gtr 0 (.t 40) (ki 0))] [40])
(.cond (.t 41) [41] (.seq (.reg [xm 42 0,xm 43 3,xo 44 (.bin .sub 0 (.t 43) (ki 1)),xo 45 (.iaddr 2 (.t 42) (.t 44)),xo 46 (.faddr 1 (.t 45)),xo 47 (.load false 1 (.t 46)),xo 48 (.call 42 [(true, (.t 47))]),xo 4 (.new [(.int .i64 0),(.bool false)]),xn (.store false 2 (.t 4) (.t 48))] (rng 42 7))
(.seq (.dreg [xo 49 (.faddr 1 (.t 4)),yo 50 (.load false 1 (.t 49)) [0],yo 51 (.un .not (.t 50)) [0, 1],ym 52 51 [0, 1, 2],yf 53 52 (.mov (.t 0)) [0, 1, 2, 3],yf 54 52 (.mov (.t 3)) [0, 1, 2, 3],yf 55 52 (.iaddr 2 (.t 53) (.t 54)) [0, 1, 2, 3, 4, 5],yf 56 52 (.faddr 0 (.t 55)) [0, 1, 2, 3, 4, 5, 6],yf 57 52 (.load false 1 (.t 56)) [0, 1, 2, 3, 4, 5, 6, 7],yf 58 52 (.faddr 0 (.t 4)) [0, 1, 2, 3],yf 59 52 (.load false 1 (.t 58)) [0, 1, 2, 3, 9],yf 60 52 (.bin .leq 0 (.t 57) (.t 59)) [0, 1, 2, 3, 4, 5, 6, 7, 8, 9, 10],yo 61 (.pick (.t 52) kt (.t 60)) (rng 0 12)] (rng 49 12))
(.cond (.t 61) [61] (.seq (.reg [xo 2 (.mov kf)] [])
.ret) .skip))) .skip))))
(.reg [xm 9 3,xo 10 (.bin .add 0 (.t 9) (ki 1)),xm 3 10] [9,10]))))))
(.seq (.reg [xo 2 (.mov kt)] [])
.ret)))
/-- caesura/caesuraref03.Good -/
def fn57 : AFn := ⟨1, 62, c57, [(.t 2)], 0⟩
theorem fn57_body : fn57.body = c57 := rfl
theorem fn57_res : fn57.res = [(.t 2)] := rfl
theorem fn57_keep : fn57.keep = 0 := rfl
def c54 : ACode :=
(.seq (.reg [xo 4 (.new [(.list 2 []),(.bool false)])] [])
(.seq (.reg [xm 5 0,xm 6 1,xo 7 (.call 43 [(true, (.t 5)),(true, (.t 6)),(true, kt)]),xn (.store false 2 (.t 4) (.t 7))] [5,6,7])
.ret))
/-- caesura/caesuraref03.Both -/
def fn54 : AFn := ⟨2, 8, c54, [(.c 4 true 2)], 0⟩
theorem fn54_body : fn54.body = c54 := rfl
theorem fn54_res : fn54.res = [(.c 4 true 2)] := rfl
theorem fn54_keep : fn54.keep = 0 := rfl
def c55 : ACode :=
(.seq (.reg [xo 2 (.new [(.list 2 []),(.bool false)])] [])
(.seq (.seq (.reg [xm 6 0,xo 7 (.call 19 [(true, (.t 6))]),xo 8 (.un .not (.t 7))] [6,7])
(.cond (.t 8) [8] (.seq (.reg [xo 9 (.agg [(.list 2 []),(.bool false)] []),xn (.store false 2 (.t 2) (.t 9))] [9])
.ret) .skip))
(.seq (.reg [xm 10 0,xo 11 (.call 44 [(true, (.t 10))]),xm 3 11] [10,11])
(.seq (.reg [xm 12 3,xo 13 (.len 1 (.t 12)),xo 14 (.mks 4 1 1 [(.bool false)] (.t 13)),xm 4 14] [12,13,14])
(.seq (.seq (.reg [xo 5 (.mov (ki 0))] [])
(.block 0 (.loop false (.seq (.seq (.reg [xm 15 5,xm 16 3,xo 17 (.len 1 (.t 16)),xo 18 (.bin .lss 0 (.t 15) (.t 17))] [15,16,17])
(.cond (.t 18) [18] .skip (.exit 0)))
(.seq (.block 1 (.reg [xm 21 4,xm 22 5,xm 23 0,xm 24 3,xm 25 5,xo 26 (.iaddr 1 (.t 24) (.t 25)),xo 27 (.load false 1 (.t 26)),xo 28 (.call 30 [(true, (.t 23)),(true, (.t 27))]),xo 29 (.un .not (.t 28)),xo 30 (.iaddr 1 (.t 21) (.t 22)),xn (.store false 1 (.t 30) (.t 29))] (rng 21 10)))
(.reg [xm 19 5,xo 20 (.bin .add 0 (.t 19) (ki 1)),xm 5 20] [19,20]))))))
(.seq (.reg [xm 31 3,xm 32 4,xo 33 (.call 31 [(true, (.t 31)),(true, (.t 32))]),xo 34 (.agg [(.list 2 []),(.bool false)] [(0, 1, (.t 33)),(1, 1, kt)]),xn (.store false 2 (.t 2) (.t 34))] (rng 31 4))
.ret))))))
/-- caesura/caesuraref03.Not -/
def fn55 : AFn := ⟨1, 35, c55, [(.c 2 true 2)], 0⟩
theorem fn55_body : fn55.body = c55 := rfl
theorem fn55_res : fn55.res = [(.c 2 true 2)] := rfl
theorem fn55_keep : fn55.keep = 0 := rfl
def c63 : ACode :=
(.seq (.reg [xo 4 (.mov kf)] [])
(.seq (.seq (.reg [xm 6 0,xo 7 (.len 1 (.t 6)),xm 8 1,xo 9 (.len 1 (.t 8)),xo 10 (.bin .neq 0 (.t 7) (.t 9))] (rng 6 4))
(.cond (.t 10) [10] (.seq (.reg [xo 4 (.mov kf)] [])
.ret) .skip))
(.seq (.seq (.reg [xo 5 (.mov (ki 0))] [])
(.block 0 (.loop false (.seq (.seq (.reg [xm 11 5,xm 12 0,xo 13 (.len 1 (.t 12)),xo 14 (.bin .lss 0 (.t 11) (.t 13))] [11,12,13])
(.cond (.t 14) [14] .skip (.exit 0)))
(.seq (.block 1 (.seq (.dreg [xm 17 0,xm 18 5,yo 19 (.iaddr 2 (.t 17) (.t 18)) [0, 1],yo 20 (.load true 2 (.t 19)) [0, 1, 2],xm 21 1,xm 22 5,yo 23 (.iaddr 2 (.t 21) (.t 22)) [4, 5],yo 24 (.load true 2 (.t 23)) [4, 5, 6],yo 25 (.bins .neq [0,0] (.t 20) (.t 24)) (rng 0 8)] (rng 17 8))
(.cond (.t 25) [25] (.seq (.reg [xo 4 (.mov kf)] [])
.ret) .skip)))
(.reg [xm 15 5,xo 16 (.bin .add 0 (.t 15) (ki 1)),xm 5 16] [15,16]))))))
(.seq (.reg [xo 4 (.mov kt)] [])
.ret))))
/-- caesura/caesurakeep.Set -/
def fn63 : AFn := ⟨2, 26, c63, [(.t 4)], 0⟩
theorem fn63_body : fn63.body = c63 := rfl
theorem fn63_res : fn63.res = [(.t 4)] := rfl
theorem fn63_keep : fn63.keep = 0 := rfl
def c1017 : ACode :=
(.seq (.reg [xo 2 (.mov kf)] [])
(.seq (.reg [xm 3 0,xo 4 (.call 45 [(true, (.t 3)),(false, (.k (.func 46 [])))]),xo 5 (.un .not (.t 4)),xm 2 5] [3,4,5])
.ret))
/-- caesura/refine.good -/
def fn1017 : AFn := ⟨1, 6, c1017, [(.t 2)], 0⟩
theorem fn1017_body : fn1017.body = c1017 := rfl
theorem fn1017_res : fn1017.res = [(.t 2)] := rfl
theorem fn1017_keep : fn1017.keep = 0 := rfl
def c1018 : ACode :=
(.seq (.reg [xo 2 (.anil 3 1)] [])
(.seq (.reg [xo 10 (.mkl 3 1 [(.int .i64 0)] 1 [(0, (ki 0))] false),xm 3 10] [10])
(.seq (.seq (.reg [xm 11 0,xo 12 (.len 1 (.t 11)),xo 13 (.mov (ki 0))] [])
(.block 0 (.loop false (.seq (.reg [xo 14 (.bin .lss 0 (.t 13) (.t 12))] [])
(.seq (.cond (.t 14) [14] .skip (.exit 0))
(.seq (.block 1 (.seq (.reg [xo 15 (.iaddr 1 (.t 11) (.t 13)),xo 16 (.load false 1 (.t 15)),xm 5 16] [15,16])
(.seq (.reg [xm 17 5,xo 18 (.len 1 (.t 17)),xo 19 (.mov (ki 0))] [])
(.block 2 (.loop false (.seq (.reg [xo 20 (.bin .lss 0 (.t 19) (.t 18))] [])
(.seq (.cond (.t 20) [20] .skip (.exit 2))
(.seq (.block 3 (.seq (.reg [xo 21 (.iaddr 2 (.t 17) (.t 19)),xo 22 (.load true 2 (.t 21)),xo 7 (.new [(.int .i64 0),(.int .i64 0)]),xn (.store false 2 (.t 7) (.t 22))] [21,22])
(.seq (.reg [xm 23 3,xo 24 (.faddr 0 (.t 7)),xo 25 (.load false 1 (.t 24)),xo 26 (.mkl 3 1 [(.int .i64 0)] 1 [(0, (.t 25))] false),xo 27 (.app 3 1 8 (.t 23) (.t 26)),xm 3 27] (rng 23 5))
(.seq (.reg [xo 29 (.faddr 1 (.t 7)),xo 30 (.load false 1 (.t 29)),xo 31 (.call 35 [(true, (.t 30))]),xm 28 31,xo 32 (.ext (.t 28) 0),xo 33 (.ext (.t 28) 1),xm 8 32,xm 9 33] (rng 28 6))
(.seq (.reg [xm 34 9] [])
(.cond (.t 34) [34] (.reg [xm 35 3,xm 36 8,xo 37 (.mkl 3 1 [(.int .i64 0)] 1 [(0, (.t 36))] false),xo 38 (.app 3 1 8 (.t 35) (.t 37)),xm 3 38] (rng 35 4)) .skip))))))
(.reg [xo 39 (.bin .add 0 (.t 19) (ki 1)),xm 19 39] [39])))))))))
(.reg [xo 40 (.bin .add 0 (.t 13) (ki 1)),xm 13 40] [40])))))))
(.seq (.reg [xm 41 3,xo 42 (.call 48 [(false, (.t 41))])] [41,42])
(.seq (.reg [xm 43 3,xo 44 (.call 49 [(false, (.t 43))]),xm 2 44] [43,44])
.ret)))))
/-- caesura/refine.cuts -/
def fn1018 : AFn := ⟨1, 45, c1018, [(.t 2)], 0⟩
theorem fn1018_body : fn1018.body = c1018 := rfl
theorem fn1018_res : fn1018.res = [(.t 2)] := rfl
theorem fn1018_keep : fn1018.keep = 0 := rfl
def c1019 : ACode :=
(.seq (.reg [xo 6 (.anil 3 1)] [])
(.seq (.reg [xo 14 .mkm,xm 7 14] [14])
(.seq (.reg [xm 15 0,xo 16 (.len 1 (.t 15)),xo 17 (.mks 3 1 8 [(.int .i64 0)] (.t 16)),xm 8 17] [15,16,17])
(.seq (.seq (.reg [xm 18 0,xo 19 (.len 1 (.t 18)),xo 20 (.mov (ki 0))] [])
(.block 0 (.loop false (.seq (.reg [xo 21 (.bin .lss 0 (.t 20) (.t 19))] [])
(.seq (.cond (.t 21) [21] .skip (.exit 0))
(.seq (.block 1 (.seq (.reg [xm 22 20,xo 23 (.iaddr 1 (.t 18) (.t 20)),xo 24 (.load false 1 (.t 23)),xm 9 22,xm 10 24] [22,23,24])
(.seq (.reg [xm 25 10,xo 26 (.agg [(.int .i64 0),(.int .i64 0)] [(0, 1, (.t 25)),(1, 1, (ki 0))]),xo 11 (.new [(.int .i64 0),(.int .i64 0)]),xn (.store false 2 (.t 11) (.t 26))] [25,26])
(.seq (.seq (.reg [xm 27 2,xm 28 1,xm 29 9,xo 30 (.iaddr 1 (.t 28) (.t 29)),xo 31 (.load false 1 (.t 30)),xo 32 (.call 50 [(true, (.t 27)),(true, (.t 31))])] (rng 27 5))
(.cond (.t 32) [32] (.reg [xo 33 (.faddr 1 (.t 11)),xn (.store false 1 (.t 33) (ki 1))] [33]) .skip))
(.seq (.reg [xm 35 7,xo 36 (.load true 2 (.t 11)),xo 37 (.look 3 [0,0] (.int .i64 0) true (.t 35) (.t 36)),xm 34 37,xo 38 (.ext (.t 34) 0),xo 39 (.ext (.t 34) 1),xm 12 38,xm 13 39] (rng 34 6))
(.seq (.seq (.reg [xm 40 13,xo 41 (.un .not (.t 40))] [40])
(.cond (.t 41) [41] (.seq (.reg [xm 42 7,xo 43 (.len 2 (.t 42)),xm 12 43] [42,43])
(.reg [xm 44 7,xo 45 (.load true 2 (.t 11)),xm 46 12,xn (.mset 3 [0,0] (.t 44) (.t 45) (.t 46))] [44,45,46])) .skip))
(.reg [xm 47 8,xm 48 9,xm 49 12,xo 50 (.iaddr 1 (.t 47) (.t 48)),xn (.store false 1 (.t 50) (.t 49))] (rng 47 4))))))))
(.reg [xo 51 (.bin .add 0 (.t 20) (ki 1)),xm 20 51] [51])))))))
(.seq (.reg [xm 52 8,xm 6 52] [52])
.ret)))))
/-- caesura/refine.split -/
def fn1019 : AFn := ⟨3, 53, c1019, [(.t 6)], 0⟩
theorem fn1019_body : fn1019.body = c1019 := rfl
theorem fn1019_res : fn1019.res = [(.t 6)] := rfl
theorem fn1019_keep : fn1019.keep = 0 := rfl
def c1020 : ACode :=
(.seq (.reg [xo 2 (.mov (ki 0))] [])
(.seq (.seq (.reg [xm 5 0,xo 6 (.len 1 (.t 5)),xo 7 (.bin .lss 0 (.t 6) (ki 1))] [5,6])
(.cond (.t 7) [7] .stuck .skip))
(.seq (.reg [xm 9 0,xo 10 (.iaddr 1 (.t 9) (ki 0)),xo 11 (.load false 1 (.t 10)),xm 3 11] [9,10,11])
(.seq (.seq (.reg [xo 4 (.mov (ki 1))] [])
(.block 0 (.loop false (.seq (.seq (.reg [xm 12 4,xm 13 0,xo 14 (.len 1 (.t 13)),xo 15 (.bin .lss 0 (.t 12) (.t 14))] [12,13,14])
(.cond (.t 15) [15] .skip (.exit 0)))
(.seq (.block 1 (.reg [xm 18 3,xm 19 0,xm 20 4,xo 21 (.iaddr 1 (.t 19) (.t 20)),xo 22 (.load false 1 (.t 21)),xo 23 (.mm true [(.t 18),(.t 22)]),xm 3 23] (rng 18 6)))
(.reg [xm 16 4,xo 17 (.bin .add 0 (.t 16) (ki 1)),xm 4 17] [16,17]))))))
(.seq (.reg [xm 24 3,xm 2 24] [24])
.ret)))))
/-- slices.Max[[]int,int] -/
def fn1020 : AFn := ⟨1, 25, c1020, [(.t 2)], 0⟩
theorem fn1020_body : fn1020.body = c1020 := rfl
theorem fn1020_res : fn1020.res = [(.t 2)] := rfl
theorem fn1020_keep : fn1020.keep = 0 := rfl
def c91 : ACode :=
(.seq (.reg [xo 2 (.mov (ki 0)),xo 3 (.mov kf)] [])
(.seq (.block 0 (.seq (.reg [xm 5 0,xo 6 (.bin .leq 0 (.t 5) (ki 0)),xm 4 6] [5,6])
(.cond (.t 4) [4] (.seq (.reg [xo 2 (.mov (ki 0)),xo 3 (.mov kf)] [])
.ret) (.seq (.reg [xm 8 0,xo 9 (.bin .gtr 0 (.t 8) (ki 1114111)),xm 7 9] [8,9])
(.cond (.t 7) [7] (.seq (.reg [xo 2 (.mov (ki 1114111)),xo 3 (.mov kt)] [])
.ret) (.seq (.reg [xm 11 0,xo 12 (.bin .gtr 0 (.t 11) (ki 55295)),xm 13 12,xt 14 13 (.mov (.t 0)),xt 15 13 (.bin .leq 0 (.t 14) (ki 57344)),xo 16 (.pick (.t 13) (.t 15) kf),xm 10 16] (rng 11 6))
(.cond (.t 10) [10] (.seq (.reg [xo 2 (.mov (ki 55295)),xo 3 (.mov kt)] [])
.ret) .skip)))))))
(.seq (.reg [xm 17 0,xo 18 (.bin .sub 0 (.t 17) (ki 1)),xm 2 18,xo 3 (.mov kt)] [17,18])
.ret)))
/-- caesura/scalar.Prev -/
def fn91 : AFn := ⟨1, 19, c91, [(.t 2),(.t 3)], 0⟩
theorem fn91_body : fn91.body = c91 := rfl
theorem fn91_res : fn91.res = [(.t 2), (.t 3)] := rfl
theorem fn91_keep : fn91.keep = 0 := rfl
def c48 : ACode :=
(.seq (.reg [xo 2 (.anil 55 2),xo 3 (.mov kf)] [])
(.seq (.reg [xo 4 (.anil 55 2)] [])
(.seq (.seq (.reg [xm 8 0,xo 9 (.call 52 [(true, (.t 8))]),xo 10 (.call 51 [(false, (.t 9)),(false, (.k (.func 53 [])))]),xo 11 (.len 1 (.t 10)),xo 12 (.mov (ki 0))] [8,9])
(.block 0 (.loop false (.seq (.reg [xo 13 (.bin .lss 0 (.t 12) (.t 11))] [])
(.seq (.cond (.t 13) [13] .skip (.exit 0))
(.seq (.block 1 (.seq (.reg [xo 14 (.iaddr 2 (.t 10) (.t 12)),xo 15 (.load true 2 (.t 14)),xo 6 (.new [(.int .i64 0),(.int .i64 0)]),xn (.store false 2 (.t 6) (.t 15))] [14,15])
(.seq (.reg [xm 16 4,xo 17 (.len 1 (.t 16)),xm 7 17] [16,17])
(.block 2 (.seq (.reg [xo 33 (.load true 2 (.t 6)),xo 34 (.call 54 [(true, (.t 33))]),xo 35 (.un .not (.t 34)),xm 32 35] [33,34,35])
(.cond (.t 32) [32] (.seq (.reg [xo 2 (.anil 55 2),xo 3 (.mov kf)] [])
.ret) (.seq (.dreg [xm 37 7,yo 38 (.bin .eql 0 (.t 37) (ki 0)) [0],ym 39 38 [0, 1],yf 40 39 (.mov (.t 4)) [0, 1, 2],yf 41 39 (.mov (.t 7)) [0, 1, 2],yf 42 39 (.bin .sub 0 (.t 41) (ki 1)) [0, 1, 2, 4],yf 43 39 (.iaddr 2 (.t 40) (.t 42)) [0, 1, 2, 3, 4, 5],yf 44 39 (.load true 2 (.t 43)) [0, 1, 2, 3, 4, 5, 6],yf 45 39 (.load true 2 (.t 6)) [0, 1, 2],yf 46 39 (.call 55 [(true, (.t 44)),(true, (.t 45))]) [0, 1, 2, 3, 4, 5, 6, 7, 8],yo 47 (.pick (.t 39) kt (.t 46)) [0, 1, 2, 3, 4, 5, 6, 7, 8, 9],ym 36 47 (rng 0 11)] (rng 37 11))
(.cond (.t 36) [36] (.reg [xm 48 4,xo 49 (.load true 2 (.t 6)),xo 50 (.mkl 55 2 [(.int .i64 0),(.int .i64 0)] 1 [(0, (.t 49))] false),xo 51 (.app 55 2 16 (.t 48) (.t 50)),xm 4 51] (rng 48 4)) (.dreg [xm 18 4,xm 19 7,yo 20 (.bin .sub 0 (.t 19) (ki 1)) [1],xm 21 4,xm 22 7,yo 23 (.bin .sub 0 (.t 22) (ki 1)) [4],yo 24 (.iaddr 2 (.t 21) (.t 23)) [3, 4, 5],yo 25 (.faddr 1 (.t 24)) [3, 4, 5, 6],yo 26 (.load false 1 (.t 25)) [3, 4, 5, 6, 7],xo 27 (.faddr 1 (.t 6)),yo 28 (.load false 1 (.t 27)) [9],yo 29 (.mm true [(.t 26),(.t 28)]) [3, 4, 5, 6, 7, 8, 9, 10],yo 30 (.iaddr 2 (.t 18) (.t 20)) [0, 1, 2, 3, 4, 5, 6, 7, 8, 9, 10, 11],yo 31 (.faddr 1 (.t 30)) [0, 1, 2, 3, 4, 5, 6, 7, 8, 9, 10, 11, 12],⟨none, none, .store false 1 (.t 31) (.t 29), [0, 1, 2, 3, 4, 5, 6, 7, 8, 9, 10, 11, 12, 13]⟩] (rng 18 14))))))))))
(.reg [xo 52 (.bin .add 0 (.t 12) (ki 1)),xm 12 52] [52])))))))
(.seq (.reg [xm 53 4,xm 2 53,xo 3 (.mov kt)] [53])
.ret))))
/-- caesura/sets.Of -/
def fn48 : AFn := ⟨1, 54, c48, [(.t 2),(.t 3)], 0⟩
theorem fn48_body : fn48.body = c48 := rfl
theorem fn48_res : fn48.res = [(.t 2), (.t 3)] := rfl
theorem fn48_keep : fn48.keep = 0 := rfl
def c121 : ACode :=
(.seq (.reg [xo 2 (.anil 3 1)] [])
(.seq (.reg [xo 3 (.anil 55 2)] [])
(.seq (.seq (.reg [xo 4 (.mov (ki 0))] [])
(.block 0 (.loop false (.seq (.seq (.reg [xm 5 4,xm 6 0,xo 7 (.len 1 (.t 6)),xo 8 (.bin .lss 0 (.t 5) (.t 7))] [5,6,7])
(.cond (.t 8) [8] .skip (.exit 0)))
(.seq (.block 1 (.reg [xm 11 3,xm 12 0,xm 13 4,xo 14 (.iaddr 1 (.t 12) (.t 13)),xo 15 (.load false 1 (.t 14)),xo 16 (.app 55 2 16 (.t 11) (.t 15)),xm 3 16] (rng 11 6)))
(.reg [xm 9 4,xo 10 (.bin .add 0 (.t 9) (ki 1)),xm 4 10] [9,10]))))))
(.seq (.reg [xm 17 3,xo 18 (.call 44 [(true, (.t 17))]),xm 2 18] [17,18])
.ret))))
/-- caesura/caesuraref03.Starts -/
def fn121 : AFn := ⟨1, 19, c121, [(.t 2)], 0⟩
theorem fn121_body : fn121.body = c121 := rfl
theorem fn121_res : fn121.res = [(.t 2)] := rfl
theorem fn121_keep : fn121.keep = 0 := rfl
def c59 : ACode :=
(.seq (.reg [xo 4 (.mov kf)] [])
(.seq (.seq (.reg [xo 5 (.mov (ki 0))] [])
(.block 0 (.loop false (.seq (.seq (.reg [xm 6 5,xm 7 0,xo 8 (.len 1 (.t 7)),xo 9 (.bin .lss 0 (.t 6) (.t 8))] [6,7,8])
(.cond (.t 9) [9] .skip (.exit 0)))
(.seq (.block 1 (.seq (.reg [xm 12 0,xm 13 5,xo 14 (.iaddr 2 (.t 12) (.t 13)),xo 15 (.faddr 0 (.t 14)),xo 16 (.load false 1 (.t 15)),xm 17 1,xo 18 (.bin .leq 0 (.t 16) (.t 17)),xm 19 18,xt 20 19 (.mov (.t 1)),xt 21 19 (.mov (.t 0)),xt 22 19 (.mov (.t 5)),xt 23 19 (.iaddr 2 (.t 21) (.t 22)),xt 24 19 (.faddr 1 (.t 23)),xt 25 19 (.load false 1 (.t 24)),xt 26 19 (.bin .leq 0 (.t 20) (.t 25)),xo 27 (.pick (.t 19) (.t 26) kf)] (rng 12 15))
(.cond (.t 27) [27] (.seq (.reg [xm 28 1,xo 29 (.call 37 [(true, (.t 28))]),xm 30 29,xt 31 30 (.mov (.t 0)),xt 32 30 (.call 19 [(true, (.t 31))]),xo 33 (.pick (.t 30) (.t 32) kf),xm 4 33] (rng 28 6))
.ret) .skip)))
(.reg [xm 10 5,xo 11 (.bin .add 0 (.t 10) (ki 1)),xm 5 11] [10,11]))))))
(.seq (.reg [xo 4 (.mov kf)] [])
.ret)))
/-- caesura/caesuraref03.Has -/
def fn59 : AFn := ⟨2, 34, c59, [(.t 4)], 0⟩
theorem fn59_body : fn59.body = c59 := rfl
theorem fn59_res : fn59.res = [(.t 4)] := rfl
theorem fn59_keep : fn59.keep = 0 := rfl
def c94 : ACode :=
(.seq (.reg [xo 4 (.anil 55 2)] [])
(.seq (.reg [xo 5 (.anil 55 2)] [])
(.seq (.seq (.reg [xo 6 (.mov (ki 0))] [])
(.block 0 (.loop false (.seq (.seq (.reg [xm 9 6,xm 10 0,xo 11 (.len 1 (.t 10)),xo 12 (.bin .lss 0 (.t 9) (.t 11))] [9,10,11])
(.cond (.t 12) [12] .skip (.exit 0)))
(.seq (.block 1 (.seq (.seq (.reg [xm 15 1,xm 16 6,xo 17 (.iaddr 1 (.t 15) (.t 16)),xo 18 (.load false 1 (.t 17)),xo 19 (.un .not (.t 18))] (rng 15 4))
(.cond (.t 19) [19] (.exit 1) .skip))
(.seq (.reg [xo 7 (.mov (ki 1114111))] [])
(.seq (.seq (.reg [xm 20 6,xo 21 (.bin .add 0 (.t 20) (ki 1)),xm 22 0,xo 23 (.len 1 (.t 22)),xo 24 (.bin .lss 0 (.t 21) (.t 23))] (rng 20 4))
(.cond (.t 24) [24] (.reg [xm 25 0,xm 26 6,xo 27 (.bin .add 0 (.t 26) (ki 1)),xo 28 (.iaddr 1 (.t 25) (.t 27)),xo 29 (.load false 1 (.t 28)),xo 30 (.call 56 [(true, (.t 29))]),xo 31 (.fld false 0 1 (.t 30)),xm 7 31] (rng 25 7)) .skip))
(.seq (.reg [xm 32 5,xo 33 (.len 1 (.t 32)),xo 34 (.bin .sub 0 (.t 33) (ki 1)),xm 8 34] [32,33,34])
(.seq (.dreg [xm 35 8,yo 36 (.bin .geq 0 (.t 35) (ki 0)) [0],ym 37 36 [0, 1],yt 38 37 (.mov (.t 5)) [0, 1, 2],yt 39 37 (.mov (.t 8)) [0, 1, 2],yt 40 37 (.iaddr 2 (.t 38) (.t 39)) [0, 1, 2, 3, 4],yt 41 37 (.faddr 1 (.t 40)) [0, 1, 2, 3, 4, 5],yt 42 37 (.load false 1 (.t 41)) [0, 1, 2, 3, 4, 5, 6],yt 43 37 (.call 42 [(true, (.t 42))]) [0, 1, 2, 3, 4, 5, 6, 7],yt 44 37 (.fld false 0 1 (.t 43)) [0, 1, 2, 3, 4, 5, 6, 7, 8],yt 45 37 (.mov (.t 0)) [0, 1, 2],yt 46 37 (.mov (.t 6)) [0, 1, 2],yt 47 37 (.iaddr 1 (.t 45) (.t 46)) [0, 1, 2, 10, 11],yt 48 37 (.load false 1 (.t 47)) [0, 1, 2, 10, 11, 12],yt 49 37 (.bin .eql 0 (.t 44) (.t 48)) [0, 1, 2, 3, 4, 5, 6, 7, 8, 9, 10, 11, 12, 13],yo 50 (.pick (.t 37) (.t 49) kf) (rng 0 15)] (rng 35 15))
(.cond (.t 50) [50] (.reg [xm 51 5,xm 52 8,xm 53 7,xo 54 (.iaddr 2 (.t 51) (.t 52)),xo 55 (.faddr 1 (.t 54)),xn (.store false 1 (.t 55) (.t 53))] (rng 51 5)) (.reg [xm 56 5,xm 57 0,xm 58 6,xo 59 (.iaddr 1 (.t 57) (.t 58)),xo 60 (.load false 1 (.t 59)),xm 61 7,xo 62 (.agg [(.int .i64 0),(.int .i64 0)] [(0, 1, (.t 60)),(1, 1, (.t 61))]),xo 63 (.mkl 55 2 [(.int .i64 0),(.int .i64 0)] 1 [(0, (.t 62))] false),xo 64 (.app 55 2 16 (.t 56) (.t 63)),xm 5 64] (rng 56 9)))))))))
(.reg [xm 13 6,xo 14 (.bin .add 0 (.t 13) (ki 1)),xm 6 14] [13,14]))))))
(.seq (.reg [xm 65 5,xm 4 65] [65])
.ret))))
/-- caesura/caesuraref03.Build -/
def fn94 : AFn := ⟨2, 66, c94, [(.t 4)], 0⟩
theorem fn94_body : fn94.body = c94 := rfl
theorem fn94_res : fn94.res = [(.t 4)] := rfl
theorem fn94_keep : fn94.keep = 0 := rfl
def c1022 : ACode :=
(.seq (.reg [xo 2 (.box (.t 0)),xo 3 (.box (.t 1)),xo 4 (.mov (ki 0))] [])
(.seq (.reg [xo 5 (.faddr 0 (.t 2)),xo 6 (.faddr 0 (.t 5)),xo 7 (.load false 1 (.t 6)),xo 8 (.faddr 0 (.t 3)),xo 9 (.faddr 0 (.t 8)),xo 10 (.load false 1 (.t 9)),xo 11 (.call 34 [(true, (.t 7)),(true, (.t 10))]),xm 4 11] (rng 5 7))
.ret))
/-- caesura/refine.Bands$1 -/
def fn1022 : AFn := ⟨2, 12, c1022, [(.t 4)], 0⟩
theorem fn1022_body : fn1022.body = c1022 := rfl
theorem fn1022_res : fn1022.res = [(.t 4)] := rfl
theorem fn1022_keep : fn1022.keep = 0 := rfl
def c117 : ACode :=
(.seq (.reg [xo 4 (.mov (ki 0))] [])
(.seq (.reg [xm 7 0,xo 8 (.call 59 [(true, (.t 7))]),xm 5 8] [7,8])
(.seq (.reg [xm 9 1,xo 10 (.call 59 [(true, (.t 9))]),xm 6 10] [9,10])
(.seq (.seq (.reg [xm 11 5] [])
(.cond (.t 11) [11] (.seq (.seq (.reg [xm 12 6] [])
(.cond (.t 12) [12] (.seq (.reg [xo 4 (.mov (ki 0))] [])
.ret) .skip))
(.seq (.reg [xo 4 (.mov (.k (.int .i64 (-1))))] [])
.ret)) .skip))
(.seq (.seq (.reg [xm 13 6] [])
(.cond (.t 13) [13] (.seq (.reg [xo 4 (.mov (ki 1))] [])
.ret) .skip))
(.seq (.seq (.reg [xm 14 0,xm 15 1,xo 16 (.bin .lss 0 (.t 14) (.t 15))] [14,15])
(.cond (.t 16) [16] (.seq (.reg [xo 4 (.mov (.k (.int .i64 (-1))))] [])
.ret) .skip))
(.seq (.seq (.reg [xm 17 0,xm 18 1,xo 19 (.bin .gtr 0 (.t 17) (.t 18))] [17,18])
(.cond (.t 19) [19] (.seq (.reg [xo 4 (.mov (ki 1))] [])
.ret) .skip))
(.seq (.reg [xo 4 (.mov (ki 0))] [])
.ret))))))))
/-- cmp.Compare[int] -/
def fn117 : AFn := ⟨2, 20, c117, [(.t 4)], 0⟩
theorem fn117_body : fn117.body = c117 := rfl
theorem fn117_res : fn117.res = [(.t 4)] := rfl
theorem fn117_keep : fn117.keep = 0 := rfl
def c92 : ACode :=
(.seq (.reg [xo 2 (.mov (ki 0)),xo 3 (.mov kf)] [])
(.seq (.block 0 (.seq (.reg [xm 5 0,xo 6 (.bin .lss 0 (.t 5) (ki 0)),xm 4 6] [5,6])
(.cond (.t 4) [4] (.seq (.reg [xo 2 (.mov (ki 0)),xo 3 (.mov kt)] [])
.ret) (.seq (.reg [xm 8 0,xo 9 (.bin .geq 0 (.t 8) (ki 1114111)),xm 7 9] [8,9])
(.cond (.t 7) [7] (.seq (.reg [xo 2 (.mov (ki 0)),xo 3 (.mov kf)] [])
.ret) (.seq (.reg [xm 11 0,xo 12 (.bin .geq 0 (.t 11) (ki 55295)),xm 13 12,xt 14 13 (.mov (.t 0)),xt 15 13 (.bin .lss 0 (.t 14) (ki 57344)),xo 16 (.pick (.t 13) (.t 15) kf),xm 10 16] (rng 11 6))
(.cond (.t 10) [10] (.seq (.reg [xo 2 (.mov (ki 57344)),xo 3 (.mov kt)] [])
.ret) .skip)))))))
(.seq (.reg [xm 17 0,xo 18 (.bin .add 0 (.t 17) (ki 1)),xm 2 18,xo 3 (.mov kt)] [17,18])
.ret)))
/-- caesura/scalar.Next -/
def fn92 : AFn := ⟨1, 19, c92, [(.t 2),(.t 3)], 0⟩
theorem fn92_body : fn92.body = c92 := rfl
theorem fn92_res : fn92.res = [(.t 2), (.t 3)] := rfl
theorem fn92_keep : fn92.keep = 0 := rfl
def c97 : ACode :=
(.seq (.reg [xo 2 (.mov kf)] [])
(.seq (.reg [xm 6 0,xo 7 (.call 60 [(true, (.t 6))]),xm 5 7,xo 8 (.ext (.t 5) 0),xo 9 (.ext (.t 5) 1),xm 3 8,xm 4 9] [3,5,6,7,8,9])
(.seq (.reg [xm 10 4,xm 2 10] [10])
.ret)))
/-- caesura/scalar.Is -/
def fn97 : AFn := ⟨1, 11, c97, [(.t 2)], 0⟩
theorem fn97_body : fn97.body = c97 := rfl
theorem fn97_res : fn97.res = [(.t 2)] := rfl
theorem fn97_keep : fn97.keep = 0 := rfl
def c66 : ACode :=
(.seq (.reg [xo 2 (.mov kf)] [])
(.seq (.reg [xm 3 0,xo 4 (.bin .geq 0 (.t 3) (ki 0)),xm 5 4,xt 6 5 (.mov (.t 0)),xt 7 5 (.bin .lss 0 (.t 6) (ki 55296)),xo 8 (.pick (.t 5) (.t 7) kf),xm 9 8,xf 10 9 (.mov (.t 0)),xf 11 9 (.bin .geq 0 (.t 10) (ki 57344)),xf 12 9 (.mov (.t 11)),xt 13 12 (.mov (.t 0)),xt 14 12 (.bin .leq 0 (.t 13) (ki 1114111)),xf 15 9 (.pick (.t 12) (.t 14) kf),xo 16 (.pick (.t 9) kt (.t 15)),xm 2 16] (rng 3 14))
.ret))
/-- caesura/caesuraref01.Is -/
def fn66 : AFn := ⟨1, 17, c66, [(.t 2)], 0⟩
theorem fn66_body : fn66.body = c66 := rfl
theorem fn66_res : fn66.res = [(.t 2)] := rfl
theorem fn66_keep : fn66.keep = 0 := rfl
def c50 : ACode :=
(.seq (.reg [xo 4 (.anil 55 2),xo 5 (.mov kf)] [])
(.seq (.seq (.reg [xm 8 0,xo 9 (.call 47 [(true, (.t 8))]),xo 10 (.un .not (.t 9)),xm 11 10,xf 12 11 (.mov (.t 1)),xf 13 11 (.call 47 [(true, (.t 12))]),xf 14 11 (.un .not (.t 13)),xo 15 (.pick (.t 11) kt (.t 14))] (rng 8 7))
(.cond (.t 15) [15] (.seq (.reg [xo 4 (.anil 55 2),xo 5 (.mov kf)] [])
.ret) .skip))
(.seq (.reg [xo 6 (.anil 55 2)] [])
(.seq (.block 0 (.loop false (.seq (.seq (.reg [xm 16 0,xo 17 (.len 1 (.t 16)),xo 18 (.bin .gtr 0 (.t 17) (ki 0)),xm 19 18,xt 20 19 (.mov (.t 1)),xt 21 19 (.len 1 (.t 20)),xt 22 19 (.bin .gtr 0 (.t 21) (ki 0)),xo 23 (.pick (.t 19) (.t 22) kf)] (rng 16 7))
(.cond (.t 23) [23] .skip (.exit 0)))
(.block 1 (.seq (.dreg [xm 24 0,yo 25 (.iaddr 2 (.t 24) (ki 0)) [0],yo 26 (.faddr 0 (.t 25)) [0, 1],yo 27 (.load false 1 (.t 26)) [0, 1, 2],xm 28 1,yo 29 (.iaddr 2 (.t 28) (ki 0)) [4],yo 30 (.faddr 0 (.t 29)) [4, 5],yo 31 (.load false 1 (.t 30)) [4, 5, 6],yo 32 (.mm true [(.t 27),(.t 31)]) [0, 1, 2, 3, 4, 5, 6, 7],xm 33 0,yo 34 (.iaddr 2 (.t 33) (ki 0)) [9],yo 35 (.faddr 1 (.t 34)) [9, 10],yo 36 (.load false 1 (.t 35)) [9, 10, 11],xm 37 1,yo 38 (.iaddr 2 (.t 37) (ki 0)) [13],yo 39 (.faddr 1 (.t 38)) [13, 14],yo 40 (.load false 1 (.t 39)) [13, 14, 15],yo 41 (.mm false [(.t 36),(.t 40)]) [9, 10, 11, 12, 13, 14, 15, 16],yo 42 (.agg [(.int .i64 0),(.int .i64 0)] [(0, 1, (.t 32)),(1, 1, (.t 41))]) [0, 1, 2, 3, 4, 5, 6, 7, 8, 9, 10, 11, 12, 13, 14, 15, 16, 17],xo 7 (.new [(.int .i64 0),(.int .i64 0)]),⟨none, none, .store false 2 (.t 7) (.t 42), [0, 1, 2, 3, 4, 5, 6, 7, 8, 9, 10, 11, 12, 13, 14, 15, 16, 17, 18, 19]⟩] (rng 24 19))
(.seq (.seq (.reg [xo 43 (.faddr 0 (.t 7)),xo 44 (.load false 1 (.t 43)),xo 45 (.faddr 1 (.t 7)),xo 46 (.load false 1 (.t 45)),xo 47 (.bin .leq 0 (.t 44) (.t 46))] (rng 43 4))
(.cond (.t 47) [47] (.reg [xm 48 6,xo 49 (.load true 2 (.t 7)),xo 50 (.mkl 55 2 [(.int .i64 0),(.int .i64 0)] 1 [(0, (.t 49))] false),xo 51 (.app 55 2 16 (.t 48) (.t 50)),xm 6 51] (rng 48 4)) .skip))
(.seq (.dreg [xm 52 0,yo 53 (.iaddr 2 (.t 52) (ki 0)) [0],yo 54 (.faddr 1 (.t 53)) [0, 1],yo 55 (.load false 1 (.t 54)) [0, 1, 2],xm 56 1,yo 57 (.iaddr 2 (.t 56) (ki 0)) [4],yo 58 (.faddr 1 (.t 57)) [4, 5],yo 59 (.load false 1 (.t 58)) [4, 5, 6],yo 60 (.bin .lss 0 (.t 55) (.t 59)) (rng 0 8)] (rng 52 8))
(.cond (.t 60) [60] (.reg [xm 61 0,xo 62 (.slc 2 (.t 61) (some (ki 1)) none none),xm 0 62] [61,62]) (.reg [xm 63 1,xo 64 (.slc 2 (.t 63) (some (ki 1)) none none),xm 1 64] [63,64])))))))))
(.seq (.reg [xm 65 6,xm 4 65,xo 5 (.mov kt)] [65])
.ret)))))
/-- caesura/sets.Both -/
def fn50 : AFn := ⟨2, 66, c50, [(.t 4),(.t 5)], 0⟩
theorem fn50_body : fn50.body = c50 := rfl
theorem fn50_res : fn50.res = [(.t 4), (.t 5)] := rfl
theorem fn50_keep : fn50.keep = 0 := rfl
def c62 : ACode :=
(.seq (.reg [xo 4 (.mov kf)] [])
(.seq (.seq (.reg [xm 7 0,xo 8 (.len 1 (.t 7)),xm 9 1,xo 10 (.len 1 (.t 9)),xo 11 (.bin .neq 0 (.t 8) (.t 10))] (rng 7 4))
(.cond (.t 11) [11] (.seq (.reg [xo 4 (.mov kf)] [])
.ret) .skip))
(.seq (.seq (.reg [xm 12 0,xo 13 (.len 1 (.t 12)),xo 14 (.mov (ki 0))] [])
(.block 0 (.loop false (.seq (.reg [xo 15 (.bin .lss 0 (.t 14) (.t 13))] [])
(.seq (.cond (.t 15) [15] .skip (.exit 0))
(.seq (.block 1 (.seq (.reg [xm 16 14,xo 17 (.iaddr 2 (.t 12) (.t 14)),xo 18 (.load true 2 (.t 17)),xo 6 (.new [(.int .i64 0),(.int .i64 0)]),xm 5 16,xn (.store false 2 (.t 6) (.t 18))] [16,17,18])
(.seq (.dreg [xo 19 (.load true 2 (.t 6)),xm 20 1,xm 21 5,yo 22 (.iaddr 2 (.t 20) (.t 21)) [1, 2],yo 23 (.load true 2 (.t 22)) [1, 2, 3],yo 24 (.bins .neq [0,0] (.t 19) (.t 23)) (rng 0 5)] (rng 19 5))
(.cond (.t 24) [24] (.seq (.reg [xo 4 (.mov kf)] [])
.ret) .skip))))
(.reg [xo 25 (.bin .add 0 (.t 14) (ki 1)),xm 14 25] [25])))))))
(.seq (.reg [xo 4 (.mov kt)] [])
.ret))))
/-- caesura/sets.Same -/
def fn62 : AFn := ⟨2, 26, c62, [(.t 4)], 0⟩
theorem fn62_body : fn62.body = c62 := rfl
theorem fn62_res : fn62.res = [(.t 4)] := rfl
theorem fn62_keep : fn62.keep = 0 := rfl
def c61 : ACode :=
(.seq (.reg [xo 2 (.mov (ki 0))] [])
(.seq (.reg [xo 3 (.mov (ki 0))] [])
(.seq (.seq (.reg [xo 4 (.mov (ki 0))] [])
(.block 0 (.loop false (.seq (.seq (.reg [xm 5 4,xm 6 0,xo 7 (.len 1 (.t 6)),xo 8 (.bin .lss 0 (.t 5) (.t 7)),xm 9 8,xt 10 9 (.mov (.t 0)),xt 11 9 (.call 19 [(true, (.t 10))]),xo 12 (.pick (.t 9) (.t 11) kf)] (rng 5 7))
(.cond (.t 12) [12] .skip (.exit 0)))
(.seq (.block 1 (.dreg [xm 15 3,xm 16 0,xm 17 4,yo 18 (.iaddr 2 (.t 16) (.t 17)) [1, 2],yo 19 (.faddr 0 (.t 18)) [1, 2, 3],yo 20 (.load false 1 (.t 19)) [1, 2, 3, 4],xm 21 0,xm 22 4,yo 23 (.iaddr 2 (.t 21) (.t 22)) [6, 7],yo 24 (.faddr 1 (.t 23)) [6, 7, 8],yo 25 (.load false 1 (.t 24)) [6, 7, 8, 9],yo 26 (.call 61 [(true, (.t 20)),(true, (.t 25))]) [1, 2, 3, 4, 5, 6, 7, 8, 9, 10],yo 27 (.bin .add 0 (.t 15) (.t 26)) [0, 1, 2, 3, 4, 5, 6, 7, 8, 9, 10, 11],ym 3 27 (rng 0 13)] (rng 15 13)))
(.reg [xm 13 4,xo 14 (.bin .add 0 (.t 13) (ki 1)),xm 4 14] [13,14]))))))
(.seq (.reg [xm 28 3,xm 2 28] [28])
.ret))))
/-- caesura/caesuraref03.Size -/
def fn61 : AFn := ⟨1, 29, c61, [(.t 2)], 0⟩
theorem fn61_body : fn61.body = c61 := rfl
theorem fn61_res : fn61.res = [(.t 2)] := rfl
theorem fn61_keep : fn61.keep = 0 := rfl
def c1023 : ACode :=
(.seq (.reg [xo 4 (.mov kf)] [])
(.seq (.seq (.reg [xm 6 0,xo 7 (.len 1 (.t 6)),xm 8 1,xo 9 (.len 1 (.t 8)),xo 10 (.bin .neq 0 (.t 7) (.t 9))] (rng 6 4))
(.cond (.t 10) [10] (.seq (.reg [xo 4 (.mov kf)] [])
.ret) .skip))
(.seq (.seq (.reg [xo 5 (.mov (ki 0))] [])
(.block 0 (.loop false (.seq (.seq (.reg [xm 11 5,xm 12 0,xo 13 (.len 1 (.t 12)),xo 14 (.bin .lss 0 (.t 11) (.t 13))] [11,12,13])
(.cond (.t 14) [14] .skip (.exit 0)))
(.seq (.block 1 (.seq (.dreg [xm 17 0,xm 18 5,yo 19 (.iaddr 1 (.t 17) (.t 18)) [0, 1],yo 20 (.load false 1 (.t 19)) [0, 1, 2],xm 21 1,xm 22 5,yo 23 (.iaddr 1 (.t 21) (.t 22)) [4, 5],yo 24 (.load false 1 (.t 23)) [4, 5, 6],yo 25 (.bin .neq 0 (.t 20) (.t 24)) (rng 0 8)] (rng 17 8))
(.cond (.t 25) [25] (.seq (.reg [xo 4 (.mov kf)] [])
.ret) .skip)))
(.reg [xm 15 5,xo 16 (.bin .add 0 (.t 15) (ki 1)),xm 5 16] [15,16]))))))
(.seq (.reg [xo 4 (.mov kt)] [])
.ret))))
/-- caesura/caesurakeep.Ints -/
def fn1023 : AFn := ⟨2, 26, c1023, [(.t 4)], 0⟩
theorem fn1023_body : fn1023.body = c1023 := rfl
theorem fn1023_res : fn1023.res = [(.t 4)] := rfl
theorem fn1023_keep : fn1023.keep = 0 := rfl
def c96 : ACode :=
(.seq (.reg [xo 2 (.new [(.int .i64 0),(.bool false)])] [])
(.seq (.block 0 (.seq (.reg [xm 4 0,xo 5 (.bin .geq 0 (.t 4) (ki 1114111)),xm 3 5] [4,5])
(.cond (.t 3) [3] (.seq (.reg [xo 6 (.agg [(.int .i64 0),(.bool false)] []),xn (.store false 2 (.t 2) (.t 6))] [6])
.ret) (.seq (.reg [xm 8 0,xo 9 (.bin .lss 0 (.t 8) (ki 0)),xm 7 9] [8,9])
(.cond (.t 7) [7] (.seq (.reg [xo 10 (.agg [(.int .i64 0),(.bool false)] [(0, 1, (ki 0)),(1, 1, kt)]),xn (.store false 2 (.t 2) (.t 10))] [10])
.ret) (.seq (.reg [xm 12 0,xo 13 (.bin .geq 0 (.t 12) (ki 55295)),xm 14 13,xt 15 14 (.mov (.t 0)),xt 16 14 (.bin .lss 0 (.t 15) (ki 57344)),xo 17 (.pick (.t 14) (.t 16) kf),xm 11 17] (rng 12 6))
(.cond (.t 11) [11] (.seq (.reg [xo 18 (.agg [(.int .i64 0),(.bool false)] [(0, 1, (ki 57344)),(1, 1, kt)]),xn (.store false 2 (.t 2) (.t 18))] [18])
.ret) .skip)))))))
(.seq (.reg [xm 19 0,xo 20 (.bin .add 0 (.t 19) (ki 1)),xo 21 (.agg [(.int .i64 0),(.bool false)] [(0, 1, (.t 20)),(1, 1, kt)]),xn (.store false 2 (.t 2) (.t 21))] [19,20,21])
.ret)))
/-- caesura/caesuraref01.Next -/
def fn96 : AFn := ⟨1, 22, c96, [(.c 2 true 2)], 0⟩
theorem fn96_body : fn96.body = c96 := rfl
theorem fn96_res : fn96.res = [(.c 2 true 2)] := rfl
theorem fn96_keep : fn96.keep = 0 := rfl
def c95 : ACode :=
(.seq (.reg [xo 6 (.new [(.list 2 []),(.bool false)])] [])
(.seq (.seq (.reg [xm 12 0,xo 13 (.call 19 [(true, (.t 12))]),xo 14 (.un .not (.t 13)),xm 15 14,xf 16 15 (.mov (.t 1)),xf 17 15 (.call 19 [(true, (.t 16))]),xf 18 15 (.un .not (.t 17)),xo 19 (.pick (.t 15) kt (.t 18))] (rng 12 7))
(.cond (.t 19) [19] (.seq (.reg [xo 20 (.agg [(.list 2 []),(.bool false)] []),xn (.store false 2 (.t 6) (.t 20))] [20])
.ret) .skip))
(.seq (.reg [xm 21 0,xm 22 1,xo 23 (.mkl 46 1 [(.list 2 [])] 2 [(0, (.t 21)),(1, (.t 22))] false),xo 24 (.call 29 [(true, (.t 23))]),xm 7 24] (rng 21 4))
(.seq (.reg [xm 25 7,xo 26 (.len 1 (.t 25)),xo 27 (.mks 4 1 1 [(.bool false)] (.t 26)),xm 8 27] [25,26,27])
(.seq (.seq (.reg [xo 9 (.mov (ki 0))] [])
(.block 0 (.loop false (.seq (.seq (.reg [xm 28 9,xm 29 7,xo 30 (.len 1 (.t 29)),xo 31 (.bin .lss 0 (.t 28) (.t 30))] [28,29,30])
(.cond (.t 31) [31] .skip (.exit 0)))
(.seq (.block 1 (.seq (.dreg [xm 34 0,xm 35 7,xm 36 9,yo 37 (.iaddr 1 (.t 35) (.t 36)) [1, 2],yo 38 (.load false 1 (.t 37)) [1, 2, 3],yo 39 (.call 30 [(true, (.t 34)),(true, (.t 38))]) [0, 1, 2, 3, 4],xm 40 1,xm 41 7,xm 42 9,yo 43 (.iaddr 1 (.t 41) (.t 42)) [7, 8],yo 44 (.load false 1 (.t 43)) [7, 8, 9],yo 45 (.call 30 [(true, (.t 40)),(true, (.t 44))]) [0, 1, 2, 3, 4, 5, 6, 7, 8, 9, 10],ym 10 39 [0, 1, 2, 3, 4, 5, 6, 7, 8, 9, 10, 11],ym 11 45 (rng 0 13)] (rng 34 12))
(.reg [xm 46 8,xm 47 9,xm 48 10,xm 49 48,xt 50 49 (.mov (.t 11)),xo 51 (.pick (.t 49) (.t 50) kf),xm 52 51,xf 53 52 (.mov (.t 2)),xf 54 52 (.un .not (.t 53)),xf 55 52 (.mov (.t 54)),xt 56 55 (.mov (.t 10)),xt 57 55 (.mov (.t 56)),xf 58 57 (.mov (.t 11)),xt 59 55 (.pick (.t 57) kt (.t 58)),xf 60 52 (.pick (.t 55) (.t 59) kf),xo 61 (.pick (.t 52) kt (.t 60)),xo 62 (.iaddr 1 (.t 46) (.t 47)),xn (.store false 1 (.t 62) (.t 61))] (rng 46 17))))
(.reg [xm 32 9,xo 33 (.bin .add 0 (.t 32) (ki 1)),xm 9 33] [32,33]))))))
(.seq (.reg [xm 63 7,xm 64 8,xo 65 (.call 31 [(true, (.t 63)),(true, (.t 64))]),xo 66 (.agg [(.list 2 []),(.bool false)] [(0, 1, (.t 65)),(1, 1, kt)]),xn (.store false 2 (.t 6) (.t 66))] (rng 63 4))
.ret))))))
/-- caesura/caesuraref03.two -/
def fn95 : AFn := ⟨3, 67, c95, [(.c 6 true 2)], 0⟩
theorem fn95_body : fn95.body = c95 := rfl
theorem fn95_res : fn95.res = [(.c 6 true 2)] := rfl
theorem fn95_keep : fn95.keep = 0 := rfl
def c93 : ACode :=
(.seq (.reg [xo 2 (.anil 3 1)] [])
(.seq (.reg [xo 6 (.mkl 3 1 [(.int .i64 0)] 1 [(0, (ki 0))] false),xm 3 6] [6])
(.seq (.seq (.reg [xo 4 (.mov (ki 0))] [])
(.block 0 (.loop false (.seq (.seq (.reg [xm 7 4,xm 8 0,xo 9 (.len 1 (.t 8)),xo 10 (.bin .lss 0 (.t 7) (.t 9))] [7,8,9])
(.cond (.t 10) [10] .skip (.exit 0)))
(.seq (.block 1 (.seq (.reg [xm 13 3,xm 14 0,xm 15 4,xo 16 (.iaddr 2 (.t 14) (.t 15)),xo 17 (.faddr 0 (.t 16)),xo 18 (.load false 1 (.t 17)),xo 19 (.call 62 [(true, (.t 13)),(true, (.t 18))]),xm 3 19] (rng 13 7))
(.seq (.reg [xm 20 0,xm 21 4,xo 22 (.iaddr 2 (.t 20) (.t 21)),xo 23 (.faddr 1 (.t 22)),xo 24 (.load false 1 (.t 23)),xo 25 (.call 42 [(true, (.t 24))]),xo 5 (.new [(.int .i64 0),(.bool false)]),xn (.store false 2 (.t 5) (.t 25))] (rng 20 6))
(.seq (.reg [xo 26 (.faddr 1 (.t 5)),xo 27 (.load false 1 (.t 26))] [26])
(.cond (.t 27) [27] (.reg [xm 28 3,xo 29 (.faddr 0 (.t 5)),xo 30 (.load false 1 (.t 29)),xo 31 (.call 62 [(true, (.t 28)),(true, (.t 30))]),xm 3 31] (rng 28 4)) .skip)))))
(.reg [xm 11 4,xo 12 (.bin .add 0 (.t 11) (ki 1)),xm 4 12] [11,12]))))))
(.seq (.reg [xm 32 3,xm 2 32] [32])
.ret))))
/-- caesura/caesuraref03.starts -/
def fn93 : AFn := ⟨1, 33, c93, [(.t 2)], 0⟩
theorem fn93_body : fn93.body = c93 := rfl
theorem fn93_res : fn93.res = [(.t 2)] := rfl
theorem fn93_keep : fn93.keep = 0 := rfl
def c1024 : ACode :=
(.seq (.reg [xo 4 (.mov kf)] [])
(.seq (.reg [xm 5 0,xm 6 1,xo 7 (.call 63 [(true, (.t 5)),(false, (.t 6))]),xo 8 (.bin .geq 0 (.t 7) (ki 0)),xm 4 8] (rng 5 4))
.ret))
/-- slices.ContainsFunc[[]caesura/api.Set,caesura/api.Set] -/
def fn1024 : AFn := ⟨2, 9, c1024, [(.t 4)], 0⟩
theorem fn1024_body : fn1024.body = c1024 := rfl
theorem fn1024_res : fn1024.res = [(.t 4)] := rfl
theorem fn1024_keep : fn1024.keep = 0 := rfl
def c1025 : ACode :=
(.seq (.reg [xo 2 (.mov kf)] [])
(.seq (.reg [xm 3 0,xo 4 (.call 47 [(true, (.t 3))]),xo 5 (.un .not (.t 4)),xm 2 5] [3,4,5])
.ret))
/-- caesura/refine.good$1 -/
def fn1025 : AFn := ⟨1, 6, c1025, [(.t 2)], 0⟩
theorem fn1025_body : fn1025.body = c1025 := rfl
theorem fn1025_res : fn1025.res = [(.t 2)] := rfl
theorem fn1025_keep : fn1025.keep = 0 := rfl
def c56 : ACode :=
(.seq (.reg [xo 2 (.mov kf)] [])
(.seq (.seq (.reg [xm 5 0,xo 6 (.len 1 (.t 5)),xo 7 (.mov (ki 0))] [])
(.block 0 (.loop false (.seq (.reg [xo 8 (.bin .lss 0 (.t 7) (.t 6))] [])
(.seq (.cond (.t 8) [8] .skip (.exit 0))
(.seq (.block 1 (.seq (.reg [xm 9 7,xo 10 (.iaddr 2 (.t 5) (.t 7)),xo 11 (.load true 2 (.t 10)),xo 4 (.new [(.int .i64 0),(.int .i64 0)]),xm 3 9,xn (.store false 2 (.t 4) (.t 11))] [9,10,11])
(.seq (.dreg [xo 12 (.load true 2 (.t 4)),yo 13 (.call 54 [(true, (.t 12))]) [0],yo 14 (.un .not (.t 13)) [0, 1],ym 15 14 [0, 1, 2],yf 16 15 (.mov (.t 3)) [0, 1, 2, 3],yf 17 15 (.bin .gtr 0 (.t 16) (ki 0)) [0, 1, 2, 3, 4],yf 18 15 (.mov (.t 17)) [0, 1, 2, 3, 4, 5],yt 19 18 (.mov (.t 0)) [0, 1, 2, 3, 4, 5, 6],yt 20 18 (.mov (.t 3)) [0, 1, 2, 3, 4, 5, 6],yt 21 18 (.bin .sub 0 (.t 20) (ki 1)) [0, 1, 2, 3, 4, 5, 6, 8],yt 22 18 (.iaddr 2 (.t 19) (.t 21)) [0, 1, 2, 3, 4, 5, 6, 7, 8, 9],yt 23 18 (.load true 2 (.t 22)) [0, 1, 2, 3, 4, 5, 6, 7, 8, 9, 10],yt 24 18 (.load true 2 (.t 4)) [0, 1, 2, 3, 4, 5, 6],yt 25 18 (.call 55 [(true, (.t 23)),(true, (.t 24))]) [0, 1, 2, 3, 4, 5, 6, 7, 8, 9, 10, 11, 12],yt 26 18 (.un .not (.t 25)) [0, 1, 2, 3, 4, 5, 6, 7, 8, 9, 10, 11, 12, 13],yf 27 15 (.pick (.t 18) (.t 26) kf) [0, 1, 2, 3, 4, 5, 6, 7, 8, 9, 10, 11, 12, 13, 14],yo 28 (.pick (.t 15) kt (.t 27)) (rng 0 16)] (rng 12 16))
(.cond (.t 28) [28] (.seq (.reg [xo 2 (.mov kf)] [])
.ret) .skip))))
(.reg [xo 29 (.bin .add 0 (.t 7) (ki 1)),xm 7 29] [29])))))))
(.seq (.reg [xo 2 (.mov kt)] [])
.ret)))
/-- caesura/sets.Good -/
def fn56 : AFn := ⟨1, 30, c56, [(.t 2)], 0⟩
theorem fn56_body : fn56.body = c56 := rfl
theorem fn56_res : fn56.res = [(.t 2)] := rfl
theorem fn56_keep : fn56.keep = 0 := rfl
def c1028 : ACode :=
(.seq (.reg [xo 4 (.mov kf)] [])
(.seq (.reg [xm 8 0,xm 9 1,xo 10 (.call 65 [(true, (.t 8)),(true, (.t 9)),(false, (.k (.func 66 [])))]),xm 7 10,xo 11 (.ext (.t 7) 0),xo 12 (.ext (.t 7) 1),xm 5 11,xm 6 12] (rng 7 6))
(.seq (.reg [xm 13 6,xm 14 13,xf 15 14 (.mov (.t 5)),xf 16 14 (.bin .gtr 0 (.t 15) (ki 0)),xf 17 14 (.mov (.t 16)),xt 18 17 (.mov (.t 1)),xt 19 17 (.mov (.t 0)),xt 20 17 (.mov (.t 5)),xt 21 17 (.bin .sub 0 (.t 20) (ki 1)),xt 22 17 (.iaddr 2 (.t 19) (.t 21)),xt 23 17 (.faddr 1 (.t 22)),xt 24 17 (.load false 1 (.t 23)),xt 25 17 (.bin .leq 0 (.t 18) (.t 24)),xf 26 14 (.pick (.t 17) (.t 25) kf),xo 27 (.pick (.t 14) kt (.t 26)),xm 4 27] (rng 13 15))
.ret)))
/-- caesura/refine.within -/
def fn1028 : AFn := ⟨2, 28, c1028, [(.t 4)], 0⟩
theorem fn1028_body : fn1028.body = c1028 := rfl
theorem fn1028_res : fn1028.res = [(.t 4)] := rfl
theorem fn1028_keep : fn1028.keep = 0 := rfl
def c86 : ACode :=
(.seq (.reg [xo 1 (.box (.t 0)),xo 2 (.mov (.k .nilf))] [])
(.seq (.reg [xo 3 (.mkf 69 [(.t 1)]),xm 2 3] [3])
.ret))
/-- slices.Values[[]caesura/api.Range,caesura/api.Range] -/
def fn86 : AFn := ⟨1, 4, c86, [(.t 2)], 2⟩
theorem fn86_body : fn86.body = c86 := rfl
theorem fn86_res : fn86.res = [(.t 2)] := rfl
theorem fn86_keep : fn86.keep = 2 := rfl
def c88 : ACode :=
(.seq (.reg [xo 1 (.box (.t 0)),xo 2 (.mov kf)] [])
(.seq (.reg [xo 3 (.faddr 0 (.t 1)),xo 4 (.load false 1 (.t 3)),xo 5 (.call 36 [(true, (.t 4))]),xm 6 5,xt 7 6 (.faddr 1 (.t 1)),xt 8 6 (.load false 1 (.t 7)),xt 9 6 (.call 36 [(true, (.t 8))]),xo 10 (.pick (.t 6) (.t 9) kf),xm 11 10,xt 12 11 (.faddr 0 (.t 1)),xt 13 11 (.load false 1 (.t 12)),xt 14 11 (.faddr 1 (.t 1)),xt 15 11 (.load false 1 (.t 14)),xt 16 11 (.bin .leq 0 (.t 13) (.t 15)),xo 17 (.pick (.t 11) (.t 16) kf),xm 2 17] (rng 3 15))
.ret))
/-- caesura/sets.whole -/
def fn88 : AFn := ⟨1, 18, c88, [(.t 2)], 0⟩
theorem fn88_body : fn88.body = c88 := rfl
theorem fn88_res : fn88.res = [(.t 2)] := rfl
theorem fn88_keep : fn88.keep = 0 := rfl
def c89 : ACode :=
(.seq (.reg [xo 2 (.box (.t 0)),xo 3 (.box (.t 1)),xo 4 (.mov kf)] [])
(.seq (.reg [xo 8 (.faddr 1 (.t 2)),xo 9 (.load false 1 (.t 8)),xo 10 (.call 35 [(true, (.t 9))]),xm 7 10,xo 11 (.ext (.t 7) 0),xo 12 (.ext (.t 7) 1),xm 5 11,xm 6 12] (rng 7 6))
(.seq (.reg [xm 13 6,xm 14 13,xt 15 14 (.faddr 0 (.t 3)),xt 16 14 (.load false 1 (.t 15)),xt 17 14 (.mov (.t 5)),xt 18 14 (.bin .gtr 0 (.t 16) (.t 17)),xo 19 (.pick (.t 14) (.t 18) kf),xm 4 19] (rng 13 7))
.ret)))
/-- caesura/sets.apart -/
def fn89 : AFn := ⟨2, 20, c89, [(.t 4)], 0⟩
theorem fn89_body : fn89.body = c89 := rfl
theorem fn89_res : fn89.res = [(.t 4)] := rfl
theorem fn89_keep : fn89.keep = 0 := rfl
def c120 : ACode :=
(.seq (.reg [xo 2 (.new [(.int .i64 0),(.bool false)])] [])
(.seq (.block 0 (.seq (.reg [xm 4 0,xo 5 (.bin .leq 0 (.t 4) (ki 0)),xm 3 5] [4,5])
(.cond (.t 3) [3] (.seq (.reg [xo 6 (.agg [(.int .i64 0),(.bool false)] []),xn (.store false 2 (.t 2) (.t 6))] [6])
.ret) (.seq (.reg [xm 8 0,xo 9 (.bin .gtr 0 (.t 8) (ki 1114111)),xm 7 9] [8,9])
(.cond (.t 7) [7] (.seq (.reg [xo 10 (.agg [(.int .i64 0),(.bool false)] [(0, 1, (ki 1114111)),(1, 1, kt)]),xn (.store false 2 (.t 2) (.t 10))] [10])
.ret) (.seq (.reg [xm 12 0,xo 13 (.bin .gtr 0 (.t 12) (ki 55296)),xm 14 13,xt 15 14 (.mov (.t 0)),xt 16 14 (.bin .leq 0 (.t 15) (ki 57344)),xo 17 (.pick (.t 14) (.t 16) kf),xm 11 17] (rng 12 6))
(.cond (.t 11) [11] (.seq (.reg [xo 18 (.agg [(.int .i64 0),(.bool false)] [(0, 1, (ki 55295)),(1, 1, kt)]),xn (.store false 2 (.t 2) (.t 18))] [18])
.ret) .skip)))))))
(.seq (.reg [xm 19 0,xo 20 (.bin .sub 0 (.t 19) (ki 1)),xo 21 (.agg [(.int .i64 0),(.bool false)] [(0, 1, (.t 20)),(1, 1, kt)]),xn (.store false 2 (.t 2) (.t 21))] [19,20,21])
.ret)))
/-- caesura/caesuraref01.Prev -/
def fn120 : AFn := ⟨1, 22, c120, [(.c 2 true 2)], 0⟩
theorem fn120_body : fn120.body = c120 := rfl
theorem fn120_res : fn120.res = [(.c 2 true 2)] := rfl
theorem fn120_keep : fn120.keep = 0 := rfl
def c133 : ACode :=
(.seq (.reg [xo 2 (.mov kf)] [])
(.seq (.reg [xm 3 0,xm 4 0,xo 5 (.bin .neq 0 (.t 3) (.t 4)),xm 2 5] [3,4,5])
.ret))
/-- cmp.isNaN[int] -/
def fn133 : AFn := ⟨1, 6, c133, [(.t 2)], 0⟩
theorem fn133_body : fn133.body = c133 := rfl
theorem fn133_res : fn133.res = [(.t 2)] := rfl
theorem fn133_keep : fn133.keep = 0 := rfl
def c122 : ACode :=
(.seq (.reg [xo 2 (.mov (.k (.int .i32 0))),xo 3 (.mov kf)] [])
(.seq (.seq (.reg [xm 5 0,xo 6 (.bin .lss 0 (.t 5) (ki 0)),xm 7 6,xf 8 7 (.mov (.t 0)),xf 9 7 (.bin .gtr 0 (.t 8) (ki 1114111)),xo 10 (.pick (.t 7) kt (.t 9))] (rng 5 5))
(.cond (.t 10) [10] (.seq (.reg [xo 2 (.mov (.k (.int .i32 0))),xo 3 (.mov kf)] [])
.ret) .skip))
(.seq (.reg [xm 11 0,xo 12 (.conv .i32 (.t 11)),xm 4 12] [11,12])
(.seq (.reg [xm 13 4,xm 14 4,xo 15 (.bin .leq 0 (.t 14) (.k (.int .i32 55295))),xm 16 15,xf 17 16 (.mov (.t 4)),xf 18 16 (.bin .geq 0 (.t 17) (.k (.int .i32 57344))),xo 19 (.pick (.t 16) kt (.t 18)),xm 2 13,xm 3 19] (rng 13 7))
.ret))))
/-- caesura/scalar.sign -/
def fn122 : AFn := ⟨1, 20, c122, [(.t 2),(.t 3)], 0⟩
theorem fn122_body : fn122.body = c122 := rfl
theorem fn122_res : fn122.res = [(.t 2), (.t 3)] := rfl
theorem fn122_keep : fn122.keep = 0 := rfl
def c101 : ACode :=
(.seq (.reg [xo 4 (.mov (ki 0))] [])
(.seq (.seq (.reg [xm 5 0,xm 6 1,xo 7 (.bin .gtr 0 (.t 5) (.t 6)),xm 8 7,xf 9 8 (.mov (.t 1)),xf 10 8 (.bin .lss 0 (.t 9) (ki 0)),xo 11 (.pick (.t 8) kt (.t 10)),xm 12 11,xf 13 12 (.mov (.t 0)),xf 14 12 (.bin .gtr 0 (.t 13) (ki 1114111)),xo 15 (.pick (.t 12) kt (.t 14))] (rng 5 10))
(.cond (.t 15) [15] (.seq (.reg [xo 4 (.mov (ki 0))] [])
.ret) .skip))
(.seq (.reg [xm 16 1,xo 17 (.mm false [(.t 16),(ki 1114111)]),xo 18 (.bin .add 0 (.t 17) (ki 1)),xo 19 (.call 81 [(true, (.t 18))]),xm 20 0,xo 21 (.call 81 [(true, (.t 20))]),xo 22 (.bin .sub 0 (.t 19) (.t 21)),xm 4 22] (rng 16 7))
.ret)))
/-- caesura/caesuraref01.Count -/
def fn101 : AFn := ⟨2, 23, c101, [(.t 4)], 0⟩
theorem fn101_body : fn101.body = c101 := rfl
theorem fn101_res : fn101.res = [(.t 4)] := rfl
theorem fn101_keep : fn101.keep = 0 := rfl
def c119 : ACode :=
(.seq (.reg [xo 4 (.anil 3 1)] [])
(.seq (.reg [xo 5 (.mov (ki 0))] [])
(.seq (.block 0 (.loop false (.seq (.seq (.reg [xm 6 5,xm 7 0,xo 8 (.len 1 (.t 7)),xo 9 (.bin .lss 0 (.t 6) (.t 8)),xm 10 9,xt 11 10 (.mov (.t 0)),xt 12 10 (.mov (.t 5)),xt 13 10 (.iaddr 1 (.t 11) (.t 12)),xt 14 10 (.load false 1 (.t 13)),xt 15 10 (.mov (.t 1)),xt 16 10 (.bin .lss 0 (.t 14) (.t 15)),xo 17 (.pick (.t 10) (.t 16) kf)] (rng 6 11))
(.cond (.t 17) [17] .skip (.exit 0)))
(.block 1 (.reg [xm 18 5,xo 19 (.bin .add 0 (.t 18) (ki 1)),xm 5 19] [18,19])))))
(.seq (.seq (.reg [xm 20 5,xm 21 0,xo 22 (.len 1 (.t 21)),xo 23 (.bin .lss 0 (.t 20) (.t 22)),xm 24 23,xt 25 24 (.mov (.t 0)),xt 26 24 (.mov (.t 5)),xt 27 24 (.iaddr 1 (.t 25) (.t 26)),xt 28 24 (.load false 1 (.t 27)),xt 29 24 (.mov (.t 1)),xt 30 24 (.bin .eql 0 (.t 28) (.t 29)),xo 31 (.pick (.t 24) (.t 30) kf)] (rng 20 11))
(.cond (.t 31) [31] (.seq (.reg [xm 32 0,xm 4 32] [32])
.ret) .skip))
(.seq (.dreg [xo 33 (.mkl 3 1 [(.int .i64 0)] 0 [] false),xm 34 0,xm 35 5,yo 36 (.slc 1 (.t 34) none (some (.t 35)) none) [1, 2],yo 37 (.app 3 1 8 (.t 33) (.t 36)) [0, 1, 2, 3],xm 38 1,yo 39 (.lst 3 1 [(.int .i64 0)] 1 [(0, (.t 38))]) [5],yo 40 (.app 3 1 8 (.t 37) (.t 39)) [0, 1, 2, 3, 4, 5, 6],xm 41 0,xm 42 5,yo 43 (.slc 1 (.t 41) (some (.t 42)) none none) [8, 9],yo 44 (.app 3 1 8 (.t 40) (.t 43)) [0, 1, 2, 3, 4, 5, 6, 7, 8, 9, 10],ym 4 44 (rng 0 12)] (rng 33 12))
.ret)))))
/-- caesura/caesuraref03.put -/
def fn119 : AFn := ⟨2, 45, c119, [(.t 4)], 0⟩
theorem fn119_body : fn119.body = c119 := rfl
theorem fn119_res : fn119.res = [(.t 4)] := rfl
theorem fn119_keep : fn119.keep = 0 := rfl
def c1030 : ACode :=
(.seq (.reg [xo 4 (.mov (ki 0))] [])
(.seq (.seq (.reg [xm 6 0,xo 7 (.len 1 (.t 6)),xo 8 (.mov (ki 0))] [6])
(.block 0 (.loop false (.seq (.reg [xo 9 (.bin .lss 0 (.t 8) (.t 7))] [])
(.seq (.cond (.t 9) [9] .skip (.exit 0))
(.seq (.block 1 (.seq (.reg [xm 10 8,xm 5 10] [10])
(.seq (.reg [xm 11 1,xm 12 0,xm 13 5,xo 14 (.iaddr 1 (.t 12) (.t 13)),xo 15 (.load false 1 (.t 14)),xo 16 (.callv (.t 11) [(true, (.t 15))])] (rng 11 5))
(.cond (.t 16) [16] (.seq (.reg [xm 17 5,xm 4 17] [17])
.ret) .skip))))
(.reg [xo 18 (.bin .add 0 (.t 8) (ki 1)),xm 8 18] [18])))))))
(.seq (.reg [xo 4 (.mov (.k (.int .i64 (-1))))] [])
.ret)))
/-- slices.IndexFunc[[]caesura/api.Set,caesura/api.Set] -/
def fn1030 : AFn := ⟨2, 19, c1030, [(.t 4)], 0⟩
theorem fn1030_body : fn1030.body = c1030 := rfl
theorem fn1030_res : fn1030.res = [(.t 4)] := rfl
theorem fn1030_keep : fn1030.keep = 0 := rfl
def c1032 : ACode :=
(.seq (.reg [xo 6 (.mov (ki 0)),xo 7 (.mov kf)] [])
(.seq (.reg [xm 12 0,xo 13 (.len 1 (.t 12)),xm 8 13] [12,13])
(.seq (.reg [xm 14 8,xo 9 (.mov (ki 0)),xm 10 14] [14])
(.seq (.block 0 (.loop false (.seq (.seq (.reg [xm 15 9,xm 16 10,xo 17 (.bin .lss 0 (.t 15) (.t 16))] [15,16])
(.cond (.t 17) [17] .skip (.exit 0)))
(.block 1 (.seq (.reg [xm 18 9,xm 19 10,xo 20 (.bin .add 0 (.t 18) (.t 19)),xo 21 (.conv .u64 (.t 20)),xo 22 (.bin .shr 0 (.t 21) (.k (.int .u64 1))),xo 23 (.conv .i64 (.t 22)),xm 11 23] (rng 18 6))
(.seq (.reg [xm 24 2,xm 25 0,xm 26 11,xo 27 (.iaddr 2 (.t 25) (.t 26)),xo 28 (.load true 2 (.t 27)),xm 29 1,xo 30 (.callv (.t 24) [(true, (.t 28)),(true, (.t 29))]),xo 31 (.bin .lss 0 (.t 30) (ki 0))] (rng 24 7))
(.cond (.t 31) [31] (.reg [xm 32 11,xo 33 (.bin .add 0 (.t 32) (ki 1)),xm 9 33] [32,33]) (.reg [xm 34 11,xm 10 34] [34]))))))))
(.seq (.reg [xm 35 9,xm 36 9,xm 37 8,xo 38 (.bin .lss 0 (.t 36) (.t 37)),xm 39 38,xt 40 39 (.mov (.t 2)),xt 41 39 (.mov (.t 0)),xt 42 39 (.mov (.t 9)),xt 43 39 (.iaddr 2 (.t 41) (.t 42)),xt 44 39 (.load true 2 (.t 43)),xt 45 39 (.mov (.t 1)),xt 46 39 (.callv (.t 40) [(true, (.t 44)),(true, (.t 45))]),xt 47 39 (.bin .eql 0 (.t 46) (ki 0)),xo 48 (.pick (.t 39) (.t 47) kf),xm 6 35,xm 7 48] (rng 35 14))
.ret)))))
/-- slices.BinarySearchFunc[caesura/api.Set,caesura/api.Range,int] -/
def fn1032 : AFn := ⟨3, 49, c1032, [(.t 6),(.t 7)], 0⟩
theorem fn1032_body : fn1032.body = c1032 := rfl
theorem fn1032_res : fn1032.res = [(.t 6), (.t 7)] := rfl
theorem fn1032_keep : fn1032.keep = 0 := rfl
def c1033 : ACode :=
(.seq (.reg [xo 2 (.box (.t 0)),xo 4 (.mov (ki 0))] [])
(.seq (.reg [xo 5 (.faddr 0 (.t 2)),xo 6 (.load false 1 (.t 5)),xm 7 1,xo 8 (.call 34 [(true, (.t 6)),(true, (.t 7))]),xm 4 8] (rng 5 4))
.ret))
/-- caesura/refine.within$1 -/
def fn1033 : AFn := ⟨2, 9, c1033, [(.t 4)], 0⟩
theorem fn1033_body : fn1033.body = c1033 := rfl
theorem fn1033_res : fn1033.res = [(.t 4)] := rfl
theorem fn1033_keep : fn1033.keep = 0 := rfl
def c125 : ACode :=
(.seq (.reg [xo 2 (.mov (ki 0))] [])
(.seq (.reg [xm 3 0,xo 4 (.mm false [(.t 3),(ki 1114112)]),xo 5 (.mm true [(ki 0),(.t 4)]),xm 0 5] [3,4,5])
(.seq (.seq (.reg [xm 6 0,xo 7 (.bin .leq 0 (.t 6) (ki 55296))] [6])
(.cond (.t 7) [7] (.seq (.reg [xm 8 0,xm 2 8] [8])
.ret) .skip))
(.seq (.reg [xm 9 0,xo 10 (.mm true [(.t 9),(ki 57344)]),xo 11 (.bin .sub 0 (.t 10) (ki 2048)),xm 2 11] [9,10,11])
.ret))))
/-- caesura/caesuraref01.Below -/
def fn125 : AFn := ⟨1, 12, c125, [(.t 2)], 0⟩
theorem fn125_body : fn125.body = c125 := rfl
theorem fn125_res : fn125.res = [(.t 2)] := rfl
theorem fn125_keep : fn125.keep = 0 := rfl
end Go.Proofs.Abs
