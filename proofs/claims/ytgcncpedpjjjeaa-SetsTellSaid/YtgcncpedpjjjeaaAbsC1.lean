/- The program's functions as codes of the abstract interpreter, and that each is the program's own. Printed by wip/abs/absgen.py and codetext.py. -/
import Derived.Test.YtgcncpedpjjjeaaAbsP
import Derived.Test.YtgcncpedpjjjeaaProg
import Derived.KernelRfl
set_option maxRecDepth 100000
set_option linter.all false
set_option linter.unusedVariables false
set_option linter.unusedSimpArgs false
set_option linter.constructorNameAsVariable false
set_option linter.defProp false
namespace Go.Proofs.Abs
open ACode AIns AX
def c11_1 : ACode :=
(.reg [xm 65 7,xo 66 (.call 56 [(true, (.t 65))]),xm 67 0,xo 68 (.call 57 [(true, (.t 67))]),xo 69 (.bin .eql 1 (.t 66) (.t 68)),xm 70 69,xt 71 70 (.mov (.t 7)),xt 72 70 (.mov (.t 2)),xt 73 70 (.call 58 [(true, (.t 71)),(true, (.t 72))]),xt 74 70 (.mov (.t 0)),xt 75 70 (.mov (.t 2)),xt 76 70 (.call 59 [(true, (.t 74)),(true, (.t 75))]),xt 77 70 (.bin .eql 1 (.t 73) (.t 76)),xo 78 (.pick (.t 70) (.t 77) kf),xm 79 78,xt 80 79 (.mov (.t 7)),xt 81 79 (.call 60 [(true, (.t 80))]),xt 82 79 (.mov (.t 0)),xt 83 79 (.call 61 [(true, (.t 82))]),xt 84 79 (.bin .eql 0 (.t 81) (.t 83)),xo 85 (.pick (.t 79) (.t 84) kf),xm 86 85,xt 87 86 (.mov (.t 7)),xt 88 86 (.mov (.t 8)),xt 89 86 (.call 62 [(true, (.t 87)),(true, (.t 88))]),xt 90 86 (.mov (.t 0)),xt 91 86 (.mov (.t 1)),xt 92 86 (.call 63 [(true, (.t 90)),(true, (.t 91))]),xt 93 86 (.bin .eql 1 (.t 89) (.t 92)),xo 94 (.pick (.t 86) (.t 93) kf),xm 95 94,xt 96 95 (.mov (.t 7)),xt 97 95 (.mov (.t 8)),xt 98 95 (.call 64 [(true, (.t 96)),(true, (.t 97))]),xt 99 95 (.mov (.t 0)),xt 100 95 (.mov (.t 1)),xt 101 95 (.call 65 [(true, (.t 99)),(true, (.t 100))]),xt 102 95 (.bin .eql 1 (.t 98) (.t 101)),xo 103 (.pick (.t 95) (.t 102) kf),xm 104 103,xt 105 104 (.mov (.t 9)),xt 106 104 (.faddr 0 (.t 17)),xt 107 104 (.load false 1 (.t 106)),xt 108 104 (.call 63 [(true, (.t 105)),(true, (.t 107))]),xo 109 (.pick (.t 104) (.t 108) kf),xm 110 109,xt 111 110 (.mov (.t 10)),xt 112 110 (.faddr 1 (.t 17)),xt 113 110 (.load false 1 (.t 112)),xt 114 110 (.bin .eql 1 (.t 111) (.t 113)),xo 115 (.pick (.t 110) (.t 114) kf),xm 116 115,xt 117 116 (.mov (.t 11)),xt 118 116 (.faddr 0 (.t 18)),xt 119 116 (.load false 1 (.t 118)),xt 120 116 (.call 63 [(true, (.t 117)),(true, (.t 119))]),xo 121 (.pick (.t 116) (.t 120) kf),xm 122 121,xt 123 122 (.mov (.t 12)),xt 124 122 (.faddr 1 (.t 18)),xt 125 122 (.load false 1 (.t 124)),xt 126 122 (.bin .eql 1 (.t 123) (.t 125)),xo 127 (.pick (.t 122) (.t 126) kf),xm 128 127,xt 129 128 (.mov (.t 13)),xt 130 128 (.faddr 0 (.t 19)),xt 131 128 (.load false 1 (.t 130)),xt 132 128 (.call 63 [(true, (.t 129)),(true, (.t 131))]),xo 133 (.pick (.t 128) (.t 132) kf),xm 134 133,xt 135 134 (.mov (.t 14)),xt 136 134 (.faddr 1 (.t 19)),xt 137 134 (.load false 1 (.t 136)),xt 138 134 (.bin .eql 1 (.t 135) (.t 137)),xo 139 (.pick (.t 134) (.t 138) kf),xm 140 139,xt 141 140 (.mov (.t 15)),xt 142 140 (.faddr 0 (.t 20)),xt 143 140 (.load false 1 (.t 142)),xt 144 140 (.call 63 [(true, (.t 141)),(true, (.t 143))]),xo 145 (.pick (.t 140) (.t 144) kf),xm 146 145,xt 147 146 (.mov (.t 16)),xt 148 146 (.faddr 1 (.t 20)),xt 149 146 (.load false 1 (.t 148)),xt 150 146 (.bin .eql 1 (.t 147) (.t 149)),xo 151 (.pick (.t 146) (.t 150) kf),xm 152 151,xt 153 152 (.mov (.t 7)),xt 154 152 (.mov (.t 0)),xt 155 152 (.call 63 [(true, (.t 153)),(true, (.t 154))]),xo 156 (.pick (.t 152) (.t 155) kf),xm 157 156,xt 158 157 (.mov (.t 8)),xt 159 157 (.mov (.t 1)),xt 160 157 (.call 63 [(true, (.t 158)),(true, (.t 159))]),xo 161 (.pick (.t 157) (.t 160) kf),xm 162 161,xt 163 162 (.call 47 []),xo 164 (.pick (.t 162) (.t 163) kf),xm 6 164] (rng 65 100))
def c11_2 : ACode :=
(.seq (.reg [xm 45 7,xm 46 8,xo 47 (.call 50 [(true, (.t 45)),(true, (.t 46))]),xm 44 47,xo 48 (.ext (.t 44) 0),xo 49 (.ext (.t 44) 1),xm 13 48,xm 14 49] (rng 44 6))
(.seq (.reg [xm 51 7,xo 52 (.call 51 [(true, (.t 51))]),xm 50 52,xo 53 (.ext (.t 50) 0),xo 54 (.ext (.t 50) 1),xm 15 53,xm 16 54] (rng 50 5))
(.seq (.reg [xm 55 0,xo 56 (.call 52 [(true, (.t 55))]),xm 57 0,xm 58 1,xo 59 (.call 53 [(true, (.t 57)),(true, (.t 58))]),xm 60 0,xm 61 1,xo 62 (.call 54 [(true, (.t 60)),(true, (.t 61))]),xm 63 0,xo 64 (.call 55 [(true, (.t 63))]),xo 17 (.new [(.list 2 []),(.bool false)]),xo 18 (.new [(.list 2 []),(.bool false)]),xo 19 (.new [(.list 2 []),(.bool false)]),xo 20 (.new [(.list 2 []),(.bool false)]),xn (.store false 2 (.t 17) (.t 56)),xn (.store false 2 (.t 18) (.t 59)),xn (.store false 2 (.t 19) (.t 62)),xn (.store false 2 (.t 20) (.t 64))] (rng 55 10))
(.seq c11_1
.ret))))
def c11_3 : ACode :=
(.seq (.seq (.reg [xm 21 0,xm 22 1,xo 23 (.call 46 [(true, (.t 21)),(true, (.t 22))])] [21,22])
(.cond (.t 23) [23] (.seq (.reg [xo 24 (.call 47 []),xm 6 24] [24])
.ret) .skip))
(.seq (.reg [xo 25 (.mkl 70 2 [(.int .i64 0),(.int .i64 0)] 0 [] false),xm 26 0,xo 27 (.app 70 2 16 (.t 25) (.t 26)),xo 28 (.mkl 70 2 [(.int .i64 0),(.int .i64 0)] 0 [] false),xm 29 1,xo 30 (.app 70 2 16 (.t 28) (.t 29)),xm 7 27,xm 8 30] (rng 25 6))
(.seq (.reg [xo 32 (.mkl 70 2 [(.int .i64 0),(.int .i64 0)] 0 [] false),xm 33 0,xo 34 (.app 70 2 16 (.t 32) (.t 33)),xo 35 (.call 48 [(true, (.t 34))]),xm 31 35,xo 36 (.ext (.t 31) 0),xo 37 (.ext (.t 31) 1),xm 9 36,xm 10 37] (rng 31 7))
(.seq (.reg [xm 39 7,xm 40 8,xo 41 (.call 49 [(true, (.t 39)),(true, (.t 40))]),xm 38 41,xo 42 (.ext (.t 38) 0),xo 43 (.ext (.t 38) 1),xm 11 42,xm 12 43] (rng 38 6))
c11_2))))
def c11 : ACode :=
(.seq (.reg [xo 6 (.mov kf)] [])
c11_3)
/-- caesura/caesuralaw03.SetsTell -/
def fn11 : AFn := ⟨3, 165, c11, [(.t 6)], 0⟩
theorem fn11_body : fn11.body = c11 := rfl
theorem fn11_res : fn11.res = [(.t 6)] := rfl
theorem fn11_keep : fn11.keep = 0 := rfl
def c12_1 : ACode :=
(.reg [xm 63 8,xo 64 (.un .not (.t 63)),xm 65 64,xf 66 65 (.mov (.t 10)),xf 67 65 (.un .not (.t 66)),xo 68 (.pick (.t 65) kt (.t 67)),xm 69 68,xf 70 69 (.mov (.t 12)),xf 71 69 (.un .not (.t 70)),xo 72 (.pick (.t 69) kt (.t 71)),xm 73 72,xf 74 73 (.mov (.t 14)),xf 75 73 (.un .not (.t 74)),xo 76 (.pick (.t 73) kt (.t 75)),xm 77 76,xf 78 77 (.mov (.t 7)),xf 79 77 (.call 56 [(true, (.t 78))]),xf 80 77 (.un .not (.t 79)),xo 81 (.pick (.t 77) kt (.t 80)),xm 82 81,xf 83 82 (.mov (.t 9)),xf 84 82 (.call 56 [(true, (.t 83))]),xf 85 82 (.un .not (.t 84)),xo 86 (.pick (.t 82) kt (.t 85)),xm 87 86,xf 88 87 (.mov (.t 11)),xf 89 87 (.call 56 [(true, (.t 88))]),xf 90 87 (.un .not (.t 89)),xo 91 (.pick (.t 87) kt (.t 90)),xm 92 91,xf 93 92 (.mov (.t 13)),xf 94 92 (.mov (.t 0)),xf 95 92 (.call 62 [(true, (.t 93)),(true, (.t 94))]),xf 96 92 (.un .not (.t 95)),xo 97 (.pick (.t 92) kt (.t 96))] (rng 63 34))
def c12_2 : ACode :=
(.dreg [xm 112 15,xm 113 16,xm 114 17,yo 115 (.iaddr 2 (.t 113) (.t 114)) [1, 2],yo 116 (.faddr 0 (.t 115)) [1, 2, 3],yo 117 (.load false 1 (.t 116)) [1, 2, 3, 4],xm 118 16,xm 119 17,yo 120 (.iaddr 2 (.t 118) (.t 119)) [6, 7],yo 121 (.faddr 1 (.t 120)) [6, 7, 8],yo 122 (.load false 1 (.t 121)) [6, 7, 8, 9],xm 123 16,xm 124 17,yo 125 (.iaddr 2 (.t 123) (.t 124)) [11, 12],yo 126 (.faddr 0 (.t 125)) [11, 12, 13],yo 127 (.load false 1 (.t 126)) [11, 12, 13, 14],yo 128 (.bin .sub 0 (.t 127) (ki 1)) [11, 12, 13, 14, 15],xm 129 16,xm 130 17,yo 131 (.iaddr 2 (.t 129) (.t 130)) [17, 18],yo 132 (.faddr 1 (.t 131)) [17, 18, 19],yo 133 (.load false 1 (.t 132)) [17, 18, 19, 20],yo 134 (.bin .add 0 (.t 133) (ki 1)) [17, 18, 19, 20, 21],yo 135 (.mkl 3 1 [(.int .i64 0)] 4 [(0, (.t 117)),(1, (.t 122)),(2, (.t 128)),(3, (.t 134))] false) [1, 2, 3, 4, 5, 6, 7, 8, 9, 10, 11, 12, 13, 14, 15, 16, 17, 18, 19, 20, 21, 22],yo 136 (.app 3 1 8 (.t 112) (.t 135)) [0, 1, 2, 3, 4, 5, 6, 7, 8, 9, 10, 11, 12, 13, 14, 15, 16, 17, 18, 19, 20, 21, 22, 23],ym 15 136 (rng 0 25)] (rng 112 25))
def c12_3 : ACode :=
(.reg [xm 153 7,xm 154 19,xo 155 (.call 58 [(true, (.t 153)),(true, (.t 154))]),xm 156 20,xm 157 156,xf 158 157 (.mov (.t 21)),xo 159 (.pick (.t 157) kt (.t 158)),xo 160 (.bin .neq 1 (.t 155) (.t 159)),xm 161 160,xf 162 161 (.mov (.t 9)),xf 163 161 (.mov (.t 19)),xf 164 161 (.call 58 [(true, (.t 162)),(true, (.t 163))]),xf 165 161 (.mov (.t 20)),xf 166 161 (.mov (.t 165)),xt 167 166 (.mov (.t 21)),xf 168 161 (.pick (.t 166) (.t 167) kf),xf 169 161 (.bin .neq 1 (.t 164) (.t 168)),xo 170 (.pick (.t 161) kt (.t 169)),xm 171 170,xf 172 171 (.mov (.t 11)),xf 173 171 (.mov (.t 19)),xf 174 171 (.call 58 [(true, (.t 172)),(true, (.t 173))]),xf 175 171 (.mov (.t 19)),xf 176 171 (.call 66 [(true, (.t 175))]),xf 177 171 (.mov (.t 176)),xt 178 177 (.mov (.t 20)),xt 179 177 (.un .not (.t 178)),xf 180 171 (.pick (.t 177) (.t 179) kf),xf 181 171 (.bin .neq 1 (.t 174) (.t 180)),xo 182 (.pick (.t 171) kt (.t 181))] (rng 153 29))
def c12_4 : ACode :=
(.seq (.seq (.reg [xo 18 (.mov (ki 0))] [])
(.block 2 (.loop false (.seq (.seq (.reg [xm 137 18,xm 138 15,xo 139 (.len 1 (.t 138)),xo 140 (.bin .lss 0 (.t 137) (.t 139))] [137,138,139])
(.cond (.t 140) [140] .skip (.exit 2)))
(.seq (.block 3 (.seq (.reg [xm 143 15,xm 144 18,xo 145 (.iaddr 1 (.t 143) (.t 144)),xo 146 (.load false 1 (.t 145)),xm 19 146] (rng 143 4))
(.seq (.reg [xm 147 0,xm 148 19,xo 149 (.call 58 [(true, (.t 147)),(true, (.t 148))]),xm 150 1,xm 151 19,xo 152 (.call 58 [(true, (.t 150)),(true, (.t 151))]),xm 20 149,xm 21 152] (rng 147 6))
(.seq c12_3
(.cond (.t 182) [182] (.seq (.reg [xo 6 (.mov kf)] [])
.ret) .skip)))))
(.reg [xm 141 18,xo 142 (.bin .add 0 (.t 141) (ki 1)),xm 18 142] [141,142]))))))
(.seq (.reg [xm 183 7,xo 184 (.call 60 [(true, (.t 183))]),xm 185 9,xo 186 (.call 60 [(true, (.t 185))]),xo 187 (.bin .add 0 (.t 184) (.t 186)),xm 188 0,xo 189 (.call 60 [(true, (.t 188))]),xm 190 1,xo 191 (.call 60 [(true, (.t 190))]),xo 192 (.bin .add 0 (.t 189) (.t 191)),xo 193 (.bin .eql 0 (.t 187) (.t 192)),xm 194 193,xt 195 194 (.mov (.t 11)),xt 196 194 (.call 60 [(true, (.t 195))]),xt 197 194 (.mov (.t 0)),xt 198 194 (.call 60 [(true, (.t 197))]),xt 199 194 (.bin .add 0 (.t 196) (.t 198)),xt 200 194 (.bin .eql 0 (.t 199) (ki 1112064)),xo 201 (.pick (.t 194) (.t 200) kf),xm 202 201,xt 203 202 (.call 47 []),xo 204 (.pick (.t 202) (.t 203) kf),xm 6 204] (rng 183 22))
.ret))
def c12_5 : ACode :=
(.seq (.reg [xm 59 11,xo 60 (.call 51 [(true, (.t 59))]),xm 58 60,xo 61 (.ext (.t 58) 0),xo 62 (.ext (.t 58) 1),xm 13 61,xm 14 62] (rng 58 5))
(.seq (.seq c12_1
(.cond (.t 97) [97] (.seq (.reg [xo 6 (.mov kf)] [])
.ret) .skip))
(.seq (.reg [xo 98 (.mkl 3 1 [(.int .i64 0)] 0 [] false),xm 99 2,xo 100 (.app 3 1 8 (.t 98) (.t 99)),xm 15 100] [98,99,100])
(.seq (.reg [xo 101 (.mkl 70 2 [(.int .i64 0),(.int .i64 0)] 0 [] false),xm 102 0,xo 103 (.app 70 2 16 (.t 101) (.t 102)),xm 104 1,xo 105 (.app 70 2 16 (.t 103) (.t 104)),xm 16 105] (rng 101 5))
(.seq (.seq (.reg [xo 17 (.mov (ki 0))] [])
(.block 0 (.loop false (.seq (.seq (.reg [xm 106 17,xm 107 16,xo 108 (.len 1 (.t 107)),xo 109 (.bin .lss 0 (.t 106) (.t 108))] [106,107,108])
(.cond (.t 109) [109] .skip (.exit 0)))
(.seq (.block 1 c12_2)
(.reg [xm 110 17,xo 111 (.bin .add 0 (.t 110) (ki 1)),xm 17 111] [110,111]))))))
c12_4)))))
def c12_6 : ACode :=
(.seq (.seq (.reg [xm 22 0,xm 23 1,xo 24 (.call 46 [(true, (.t 22)),(true, (.t 23))]),xm 25 24,xf 26 25 (.mov (.t 0)),xf 27 25 (.call 57 [(true, (.t 26))]),xf 28 25 (.un .not (.t 27)),xo 29 (.pick (.t 25) kt (.t 28)),xm 30 29,xf 31 30 (.mov (.t 1)),xf 32 30 (.call 57 [(true, (.t 31))]),xf 33 30 (.un .not (.t 32)),xo 34 (.pick (.t 30) kt (.t 33)),xm 35 34,xf 36 35 (.mov (.t 2)),xf 37 35 (.len 1 (.t 36)),xf 38 35 (.bin .gtr 0 (.t 37) (ki 100)),xo 39 (.pick (.t 35) kt (.t 38))] (rng 22 17))
(.cond (.t 39) [39] (.seq (.reg [xo 40 (.call 47 []),xm 6 40] [40])
.ret) .skip))
(.seq (.reg [xm 42 0,xm 43 1,xo 44 (.call 49 [(true, (.t 42)),(true, (.t 43))]),xm 41 44,xo 45 (.ext (.t 41) 0),xo 46 (.ext (.t 41) 1),xm 7 45,xm 8 46] (rng 41 6))
(.seq (.reg [xm 48 0,xm 49 1,xo 50 (.call 50 [(true, (.t 48)),(true, (.t 49))]),xm 47 50,xo 51 (.ext (.t 47) 0),xo 52 (.ext (.t 47) 1),xm 9 51,xm 10 52] (rng 47 6))
(.seq (.reg [xm 54 0,xo 55 (.call 51 [(true, (.t 54))]),xm 53 55,xo 56 (.ext (.t 53) 0),xo 57 (.ext (.t 53) 1),xm 11 56,xm 12 57] (rng 53 5))
c12_5))))
def c12 : ACode :=
(.seq (.reg [xo 6 (.mov kf)] [])
c12_6)
/-- caesura/caesuralaw03.SetsHold -/
def fn12 : AFn := ⟨3, 205, c12, [(.t 6)], 0⟩
theorem fn12_body : fn12.body = c12 := rfl
theorem fn12_res : fn12.res = [(.t 6)] := rfl
theorem fn12_keep : fn12.keep = 0 := rfl
def c13_1 : ACode :=
(.reg [xm 28 7,xm 29 28,xt 30 29 (.mov (.t 8)),xo 31 (.pick (.t 29) (.t 30) kf),xm 32 31,xf 33 32 (.mov (.t 7)),xf 34 32 (.mov (.t 33)),xf 35 34 (.mov (.t 8)),xf 36 32 (.pick (.t 34) kt (.t 35)),xf 37 32 (.mov (.t 0)),xf 38 32 (.mov (.t 1)),xf 39 32 (.call 63 [(true, (.t 37)),(true, (.t 38))]),xf 40 32 (.bin .eql 1 (.t 36) (.t 39)),xo 41 (.pick (.t 32) kt (.t 40)),xm 42 41,xf 43 42 (.mov (.t 7)),xf 44 42 (.mov (.t 43)),xt 45 44 (.mov (.t 1)),xt 46 44 (.mov (.t 2)),xt 47 44 (.call 64 [(true, (.t 45)),(true, (.t 46))]),xf 48 42 (.pick (.t 44) (.t 47) kf),xf 49 42 (.mov (.t 48)),xt 50 49 (.mov (.t 0)),xt 51 49 (.mov (.t 2)),xt 52 49 (.call 64 [(true, (.t 50)),(true, (.t 51))]),xt 53 49 (.un .not (.t 52)),xf 54 42 (.pick (.t 49) (.t 53) kf),xo 55 (.pick (.t 42) kt (.t 54))] (rng 28 27))
def c13_2 : ACode :=
(.seq (.seq (.reg [xm 56 0,xo 57 (.len 1 (.t 56)),xo 58 (.bin .sub 0 (.t 57) (ki 1)),xm 10 58] [56,57,58])
(.block 0 (.loop false (.seq (.seq (.reg [xm 59 10,xo 60 (.bin .geq 0 (.t 59) (ki 0))] [59])
(.cond (.t 60) [60] .skip (.exit 0)))
(.seq (.block 1 (.dreg [xm 63 9,xm 64 0,xm 65 10,yo 66 (.iaddr 2 (.t 64) (.t 65)) [1, 2],yo 67 (.load true 2 (.t 66)) [1, 2, 3],xm 68 0,xm 69 10,yo 70 (.iaddr 2 (.t 68) (.t 69)) [5, 6],yo 71 (.load true 2 (.t 70)) [5, 6, 7],yo 72 (.mkl 70 2 [(.int .i64 0),(.int .i64 0)] 2 [(0, (.t 67)),(1, (.t 71))] false) [1, 2, 3, 4, 5, 6, 7, 8],yo 73 (.app 70 2 16 (.t 63) (.t 72)) [0, 1, 2, 3, 4, 5, 6, 7, 8, 9],ym 9 73 (rng 0 11)] (rng 63 11)))
(.reg [xm 61 10,xo 62 (.bin .sub 0 (.t 61) (ki 1)),xm 10 62] [61,62]))))))
(.seq (.reg [xm 75 9,xo 76 (.call 48 [(true, (.t 75))]),xm 74 76,xo 77 (.ext (.t 74) 0),xo 78 (.ext (.t 74) 1),xm 11 77,xm 12 78] (rng 74 5))
(.seq (.reg [xm 79 0,xo 80 (.call 57 [(true, (.t 79))]),xo 81 (.un .not (.t 80)),xm 82 81,xf 83 82 (.mov (.t 12)),xf 84 82 (.mov (.t 83)),xt 85 84 (.mov (.t 11)),xt 86 84 (.mov (.t 0)),xt 87 84 (.call 62 [(true, (.t 85)),(true, (.t 86))]),xf 88 82 (.pick (.t 84) (.t 87) kf),xo 89 (.pick (.t 82) kt (.t 88)),xm 90 89,xt 91 90 (.call 47 []),xo 92 (.pick (.t 90) (.t 91) kf),xm 6 92] (rng 79 14))
.ret)))
def c13 : ACode :=
(.seq (.reg [xo 6 (.mov kf)] [])
(.seq (.seq (.reg [xm 13 0,xm 14 1,xo 15 (.call 46 [(true, (.t 13)),(true, (.t 14))]),xm 16 15,xf 17 16 (.mov (.t 2)),xf 18 16 (.len 1 (.t 17)),xf 19 16 (.bin .gtr 0 (.t 18) (ki 60)),xo 20 (.pick (.t 16) kt (.t 19))] (rng 13 7))
(.cond (.t 20) [20] (.seq (.reg [xo 21 (.call 47 []),xm 6 21] [21])
.ret) .skip))
(.seq (.reg [xm 22 0,xm 23 1,xo 24 (.call 64 [(true, (.t 22)),(true, (.t 23))]),xm 25 1,xm 26 0,xo 27 (.call 64 [(true, (.t 25)),(true, (.t 26))]),xm 7 24,xm 8 27] (rng 22 6))
(.seq (.seq c13_1
(.cond (.t 55) [55] (.seq (.reg [xo 6 (.mov kf)] [])
.ret) .skip))
(.seq (.reg [xo 9 (.anil 70 2)] [])
c13_2)))))
/-- caesura/caesuralaw03.SetsOrder -/
def fn13 : AFn := ⟨3, 93, c13, [(.t 6)], 0⟩
theorem fn13_body : fn13.body = c13 := rfl
theorem fn13_res : fn13.res = [(.t 6)] := rfl
theorem fn13_keep : fn13.keep = 0 := rfl
def c14_1 : ACode :=
(.reg [xm 102 6,xo 103 (.un .not (.t 102)),xm 104 103,xf 105 104 (.mov (.t 8)),xf 106 104 (.un .not (.t 105)),xo 107 (.pick (.t 104) kt (.t 106)),xm 108 107,xf 109 108 (.mov (.t 10)),xf 110 108 (.un .not (.t 109)),xo 111 (.pick (.t 108) kt (.t 110)),xm 112 111,xf 113 112 (.mov (.t 12)),xf 114 112 (.un .not (.t 113)),xo 115 (.pick (.t 112) kt (.t 114)),xm 116 115,xf 117 116 (.mov (.t 14)),xf 118 116 (.un .not (.t 117)),xo 119 (.pick (.t 116) kt (.t 118)),xm 120 119,xf 121 120 (.mov (.t 16)),xf 122 120 (.un .not (.t 121)),xo 123 (.pick (.t 120) kt (.t 122)),xm 124 123,xf 125 124 (.mov (.t 18)),xf 126 124 (.un .not (.t 125)),xo 127 (.pick (.t 124) kt (.t 126)),xm 128 127,xf 129 128 (.mov (.t 20)),xf 130 128 (.un .not (.t 129)),xo 131 (.pick (.t 128) kt (.t 130)),xm 132 131,xf 133 132 (.mov (.t 22)),xf 134 132 (.un .not (.t 133)),xo 135 (.pick (.t 132) kt (.t 134)),xm 136 135,xf 137 136 (.mov (.t 24)),xf 138 136 (.un .not (.t 137)),xo 139 (.pick (.t 136) kt (.t 138)),xm 140 139,xf 141 140 (.mov (.t 26)),xf 142 140 (.un .not (.t 141)),xo 143 (.pick (.t 140) kt (.t 142))] (rng 102 41))
def c14_2 : ACode :=
(.reg [xm 144 5,xm 145 7,xo 146 (.call 62 [(true, (.t 144)),(true, (.t 145))]),xm 147 146,xt 148 147 (.mov (.t 9)),xt 149 147 (.mov (.t 11)),xt 150 147 (.call 62 [(true, (.t 148)),(true, (.t 149))]),xo 151 (.pick (.t 147) (.t 150) kf),xm 152 151,xt 153 152 (.mov (.t 13)),xt 154 152 (.mov (.t 0)),xt 155 152 (.call 62 [(true, (.t 153)),(true, (.t 154))]),xo 156 (.pick (.t 152) (.t 155) kf),xm 157 156,xt 158 157 (.mov (.t 15)),xt 159 157 (.len 1 (.t 158)),xt 160 157 (.bin .eql 0 (.t 159) (ki 0)),xo 161 (.pick (.t 157) (.t 160) kf),xm 162 161,xt 163 162 (.mov (.t 17)),xt 164 162 (.mov (.t 0)),xt 165 162 (.call 62 [(true, (.t 163)),(true, (.t 164))]),xo 166 (.pick (.t 162) (.t 165) kf),xm 167 166,xt 168 167 (.mov (.t 23)),xt 169 167 (.mov (.t 25)),xt 170 167 (.call 62 [(true, (.t 168)),(true, (.t 169))]),xo 171 (.pick (.t 167) (.t 170) kf),xm 172 171,xt 173 172 (.call 47 []),xo 174 (.pick (.t 172) (.t 173) kf),xm 4 174] (rng 144 31))
def c14_3 : ACode :=
(.seq (.reg [xm 77 0,xo 78 (.call 49 [(true, (.k (.list 2 []))),(true, (.t 77))]),xm 76 78,xo 79 (.ext (.t 76) 0),xo 80 (.ext (.t 76) 1),xm 17 79,xm 18 80] (rng 76 5))
(.seq (.reg [xm 82 0,xo 83 (.call 51 [(true, (.t 82))]),xm 81 83,xo 84 (.ext (.t 81) 0),xo 85 (.ext (.t 81) 1),xm 19 84,xm 20 85] (rng 81 5))
(.seq (.reg [xm 87 1,xo 88 (.call 51 [(true, (.t 87))]),xm 86 88,xo 89 (.ext (.t 86) 0),xo 90 (.ext (.t 86) 1),xm 21 89,xm 22 90] (rng 86 5))
(.seq (.reg [xm 92 19,xm 93 21,xo 94 (.call 50 [(true, (.t 92)),(true, (.t 93))]),xm 91 94,xo 95 (.ext (.t 91) 0),xo 96 (.ext (.t 91) 1),xm 23 95,xm 24 96] (rng 91 6))
(.seq (.reg [xm 98 5,xo 99 (.call 51 [(true, (.t 98))]),xm 97 99,xo 100 (.ext (.t 97) 0),xo 101 (.ext (.t 97) 1),xm 25 100,xm 26 101] (rng 97 5))
(.seq (.seq c14_1
(.cond (.t 143) [143] (.seq (.reg [xo 4 (.mov kf)] [])
.ret) .skip))
(.seq c14_2
.ret)))))))
def c14_4 : ACode :=
(.seq (.reg [xm 54 0,xm 55 1,xo 56 (.call 50 [(true, (.t 54)),(true, (.t 55))]),xm 53 56,xo 57 (.ext (.t 53) 0),xo 58 (.ext (.t 53) 1),xm 9 57,xm 10 58] (rng 53 6))
(.seq (.reg [xm 60 1,xm 61 0,xo 62 (.call 50 [(true, (.t 60)),(true, (.t 61))]),xm 59 62,xo 63 (.ext (.t 59) 0),xo 64 (.ext (.t 59) 1),xm 11 63,xm 12 64] (rng 59 6))
(.seq (.reg [xm 66 0,xm 67 0,xo 68 (.call 49 [(true, (.t 66)),(true, (.t 67))]),xm 65 68,xo 69 (.ext (.t 65) 0),xo 70 (.ext (.t 65) 1),xm 13 69,xm 14 70] (rng 65 6))
(.seq (.reg [xm 72 0,xo 73 (.call 50 [(true, (.t 72)),(true, (.k (.list 2 [])))]),xm 71 73,xo 74 (.ext (.t 71) 0),xo 75 (.ext (.t 71) 1),xm 15 74,xm 16 75] (rng 71 5))
c14_3))))
def c14_5 : ACode :=
(.seq (.seq (.reg [xm 27 0,xm 28 1,xo 29 (.call 46 [(true, (.t 27)),(true, (.t 28))]),xm 30 29,xf 31 30 (.mov (.t 0)),xf 32 30 (.call 57 [(true, (.t 31))]),xf 33 30 (.un .not (.t 32)),xo 34 (.pick (.t 30) kt (.t 33)),xm 35 34,xf 36 35 (.mov (.t 1)),xf 37 35 (.call 57 [(true, (.t 36))]),xf 38 35 (.un .not (.t 37)),xo 39 (.pick (.t 35) kt (.t 38))] (rng 27 12))
(.cond (.t 39) [39] (.seq (.reg [xo 40 (.call 47 []),xm 4 40] [40])
.ret) .skip))
(.seq (.reg [xm 42 0,xm 43 1,xo 44 (.call 49 [(true, (.t 42)),(true, (.t 43))]),xm 41 44,xo 45 (.ext (.t 41) 0),xo 46 (.ext (.t 41) 1),xm 5 45,xm 6 46] (rng 41 6))
(.seq (.reg [xm 48 1,xm 49 0,xo 50 (.call 49 [(true, (.t 48)),(true, (.t 49))]),xm 47 50,xo 51 (.ext (.t 47) 0),xo 52 (.ext (.t 47) 1),xm 7 51,xm 8 52] (rng 47 6))
c14_4)))
def c14 : ACode :=
(.seq (.reg [xo 4 (.mov kf)] [])
c14_5)
/-- caesura/caesuralaw03.SetsLaws -/
def fn14 : AFn := ⟨2, 175, c14, [(.t 4)], 0⟩
theorem fn14_body : fn14.body = c14 := rfl
theorem fn14_res : fn14.res = [(.t 4)] := rfl
theorem fn14_keep : fn14.keep = 0 := rfl
def c15 : ACode :=
(.seq (.reg [xo 4 (.mov kf)] [])
(.seq (.seq (.reg [xm 10 0,xo 11 (.len 1 (.t 10)),xo 12 (.bin .gtr 0 (.t 11) (ki 60))] [10,11])
(.cond (.t 12) [12] (.seq (.reg [xo 13 (.call 47 []),xm 4 13] [13])
.ret) .skip))
(.seq (.reg [xm 15 0,xo 16 (.call 48 [(true, (.t 15))]),xm 14 16,xo 17 (.ext (.t 14) 0),xo 18 (.ext (.t 14) 1),xm 5 17,xm 6 18] (rng 14 5))
(.seq (.reg [xo 7 (.mov kf),xo 8 (.mov kf)] [])
(.seq (.seq (.reg [xo 9 (.mov (ki 0))] [])
(.block 0 (.loop false (.seq (.seq (.reg [xm 19 9,xm 20 0,xo 21 (.len 1 (.t 20)),xo 22 (.bin .lss 0 (.t 19) (.t 21))] [19,20,21])
(.cond (.t 22) [22] .skip (.exit 0)))
(.seq (.block 1 (.seq (.dreg [xm 25 7,ym 26 25 [0],yf 27 26 (.mov (.t 0)) [0, 1],yf 28 26 (.mov (.t 9)) [0, 1],yf 29 26 (.iaddr 2 (.t 27) (.t 28)) [0, 1, 2, 3],yf 30 26 (.faddr 0 (.t 29)) [0, 1, 2, 3, 4],yf 31 26 (.load false 1 (.t 30)) [0, 1, 2, 3, 4, 5],yf 32 26 (.call 66 [(true, (.t 31))]) [0, 1, 2, 3, 4, 5, 6],yf 33 26 (.un .not (.t 32)) [0, 1, 2, 3, 4, 5, 6, 7],yo 34 (.pick (.t 26) kt (.t 33)) [0, 1, 2, 3, 4, 5, 6, 7, 8],ym 35 34 [0, 1, 2, 3, 4, 5, 6, 7, 8, 9],yf 36 35 (.mov (.t 0)) [0, 1, 2, 3, 4, 5, 6, 7, 8, 9, 10],yf 37 35 (.mov (.t 9)) [0, 1, 2, 3, 4, 5, 6, 7, 8, 9, 10],yf 38 35 (.iaddr 2 (.t 36) (.t 37)) [0, 1, 2, 3, 4, 5, 6, 7, 8, 9, 10, 11, 12],yf 39 35 (.faddr 1 (.t 38)) [0, 1, 2, 3, 4, 5, 6, 7, 8, 9, 10, 11, 12, 13],yf 40 35 (.load false 1 (.t 39)) [0, 1, 2, 3, 4, 5, 6, 7, 8, 9, 10, 11, 12, 13, 14],yf 41 35 (.call 66 [(true, (.t 40))]) [0, 1, 2, 3, 4, 5, 6, 7, 8, 9, 10, 11, 12, 13, 14, 15],yf 42 35 (.un .not (.t 41)) [0, 1, 2, 3, 4, 5, 6, 7, 8, 9, 10, 11, 12, 13, 14, 15, 16],yo 43 (.pick (.t 35) kt (.t 42)) [0, 1, 2, 3, 4, 5, 6, 7, 8, 9, 10, 11, 12, 13, 14, 15, 16, 17],ym 44 43 [0, 1, 2, 3, 4, 5, 6, 7, 8, 9, 10, 11, 12, 13, 14, 15, 16, 17, 18],yf 45 44 (.mov (.t 0)) [0, 1, 2, 3, 4, 5, 6, 7, 8, 9, 10, 11, 12, 13, 14, 15, 16, 17, 18, 19],yf 46 44 (.mov (.t 9)) [0, 1, 2, 3, 4, 5, 6, 7, 8, 9, 10, 11, 12, 13, 14, 15, 16, 17, 18, 19],yf 47 44 (.iaddr 2 (.t 45) (.t 46)) [0, 1, 2, 3, 4, 5, 6, 7, 8, 9, 10, 11, 12, 13, 14, 15, 16, 17, 18, 19, 20, 21],yf 48 44 (.faddr 1 (.t 47)) [0, 1, 2, 3, 4, 5, 6, 7, 8, 9, 10, 11, 12, 13, 14, 15, 16, 17, 18, 19, 20, 21, 22],yf 49 44 (.load false 1 (.t 48)) [0, 1, 2, 3, 4, 5, 6, 7, 8, 9, 10, 11, 12, 13, 14, 15, 16, 17, 18, 19, 20, 21, 22, 23],yf 50 44 (.mov (.t 0)) [0, 1, 2, 3, 4, 5, 6, 7, 8, 9, 10, 11, 12, 13, 14, 15, 16, 17, 18, 19],yf 51 44 (.mov (.t 9)) [0, 1, 2, 3, 4, 5, 6, 7, 8, 9, 10, 11, 12, 13, 14, 15, 16, 17, 18, 19],yf 52 44 (.iaddr 2 (.t 50) (.t 51)) [0, 1, 2, 3, 4, 5, 6, 7, 8, 9, 10, 11, 12, 13, 14, 15, 16, 17, 18, 19, 25, 26],yf 53 44 (.faddr 0 (.t 52)) [0, 1, 2, 3, 4, 5, 6, 7, 8, 9, 10, 11, 12, 13, 14, 15, 16, 17, 18, 19, 25, 26, 27],yf 54 44 (.load false 1 (.t 53)) [0, 1, 2, 3, 4, 5, 6, 7, 8, 9, 10, 11, 12, 13, 14, 15, 16, 17, 18, 19, 25, 26, 27, 28],yf 55 44 (.bin .lss 0 (.t 49) (.t 54)) [0, 1, 2, 3, 4, 5, 6, 7, 8, 9, 10, 11, 12, 13, 14, 15, 16, 17, 18, 19, 20, 21, 22, 23, 24, 25, 26, 27, 28, 29],yo 56 (.pick (.t 44) kt (.t 55)) [0, 1, 2, 3, 4, 5, 6, 7, 8, 9, 10, 11, 12, 13, 14, 15, 16, 17, 18, 19, 20, 21, 22, 23, 24, 25, 26, 27, 28, 29, 30],ym 7 56 (rng 0 32)] (rng 25 32))
(.reg [xm 57 8,xm 58 57,xf 59 58 (.mov (.t 0)),xf 60 58 (.mov (.t 9)),xf 61 58 (.iaddr 2 (.t 59) (.t 60)),xf 62 58 (.faddr 0 (.t 61)),xf 63 58 (.load false 1 (.t 62)),xf 64 58 (.mov (.t 1)),xf 65 58 (.bin .leq 0 (.t 63) (.t 64)),xf 66 58 (.mov (.t 65)),xt 67 66 (.mov (.t 1)),xt 68 66 (.mov (.t 0)),xt 69 66 (.mov (.t 9)),xt 70 66 (.iaddr 2 (.t 68) (.t 69)),xt 71 66 (.faddr 1 (.t 70)),xt 72 66 (.load false 1 (.t 71)),xt 73 66 (.bin .leq 0 (.t 67) (.t 72)),xf 74 58 (.pick (.t 66) (.t 73) kf),xo 75 (.pick (.t 58) kt (.t 74)),xm 8 75] (rng 57 19))))
(.reg [xm 23 9,xo 24 (.bin .add 0 (.t 23) (ki 1)),xm 9 24] [23,24]))))))
(.seq (.seq (.reg [xm 76 6,xm 77 7,xo 78 (.bin .eql 1 (.t 76) (.t 77))] [76,77])
(.cond (.t 78) [78] (.seq (.reg [xo 4 (.mov kf)] [])
.ret) .skip))
(.seq (.seq (.reg [xm 79 7] [])
(.cond (.t 79) [79] (.seq (.reg [xm 80 5,xo 81 (.len 1 (.t 80)),xo 82 (.bin .eql 0 (.t 81) (ki 0)),xm 83 82,xt 84 83 (.call 47 []),xo 85 (.pick (.t 83) (.t 84) kf),xm 4 85] (rng 80 6))
.ret) .skip))
(.seq (.reg [xm 86 5,xo 87 (.call 56 [(true, (.t 86))]),xm 88 87,xt 89 88 (.mov (.t 5)),xt 90 88 (.call 57 [(true, (.t 89))]),xo 91 (.pick (.t 88) (.t 90) kf),xm 92 91,xt 93 92 (.mov (.t 5)),xt 94 92 (.mov (.t 1)),xt 95 92 (.call 58 [(true, (.t 93)),(true, (.t 94))]),xt 96 92 (.mov (.t 8)),xt 97 92 (.mov (.t 96)),xt 98 97 (.mov (.t 1)),xt 99 97 (.call 66 [(true, (.t 98))]),xt 100 92 (.pick (.t 97) (.t 99) kf),xt 101 92 (.bin .eql 1 (.t 95) (.t 100)),xo 102 (.pick (.t 92) (.t 101) kf),xm 103 102,xt 104 103 (.mov (.t 5)),xt 105 103 (.len 1 (.t 104)),xt 106 103 (.mov (.t 0)),xt 107 103 (.len 1 (.t 106)),xt 108 103 (.bin .leq 0 (.t 105) (.t 107)),xo 109 (.pick (.t 103) (.t 108) kf),xm 110 109,xt 111 110 (.call 47 []),xo 112 (.pick (.t 110) (.t 111) kf),xm 4 112] (rng 86 27))
.ret))))))))
/-- caesura/caesuralaw03.SetsOf -/
def fn15 : AFn := ⟨2, 113, c15, [(.t 4)], 0⟩
theorem fn15_body : fn15.body = c15 := rfl
theorem fn15_res : fn15.res = [(.t 4)] := rfl
theorem fn15_keep : fn15.keep = 0 := rfl
def c46 : ACode :=
(.seq (.reg [xo 4 (.mov kf)] [])
(.seq (.reg [xm 5 0,xo 6 (.len 1 (.t 5)),xo 7 (.bin .gtr 0 (.t 6) (ki 60)),xm 8 7,xf 9 8 (.mov (.t 1)),xf 10 8 (.len 1 (.t 9)),xf 11 8 (.bin .gtr 0 (.t 10) (ki 60)),xo 12 (.pick (.t 8) kt (.t 11)),xm 4 12] (rng 5 8))
.ret))
/-- caesura/caesuralaw03.Large -/
def fn46 : AFn := ⟨2, 13, c46, [(.t 4)], 0⟩
theorem fn46_body : fn46.body = c46 := rfl
theorem fn46_res : fn46.res = [(.t 4)] := rfl
theorem fn46_keep : fn46.keep = 0 := rfl
def c47 : ACode :=
(.seq (.reg [xo 0 (.mov kf)] [])
(.seq (.reg [xo 10 (.agg [(.int .i64 0),(.int .i64 0)] [(0, 1, (ki 99)),(1, 1, (ki 100))]),xo 11 (.agg [(.int .i64 0),(.int .i64 0)] [(0, 1, (ki 97)),(1, 1, (ki 98))]),xo 12 (.agg [(.int .i64 0),(.int .i64 0)] [(0, 1, (ki 55295)),(1, 1, (ki 55295))]),xo 13 (.agg [(.int .i64 0),(.int .i64 0)] [(0, 1, (ki 57344)),(1, 1, (ki 57345))]),xo 14 (.mkl 70 2 [(.int .i64 0),(.int .i64 0)] 4 [(0, (.t 10)),(1, (.t 11)),(2, (.t 12)),(3, (.t 13))] false),xo 15 (.call 48 [(true, (.t 14))]),xm 9 15,xo 16 (.ext (.t 9) 0),xo 17 (.ext (.t 9) 1),xm 1 16,xm 2 17] (rng 9 9))
(.seq (.reg [xm 19 1,xo 20 (.call 51 [(true, (.t 19))]),xm 18 20,xo 21 (.ext (.t 18) 0),xo 22 (.ext (.t 18) 1),xm 3 21,xm 4 22] (rng 18 5))
(.seq (.reg [xm 24 1,xo 25 (.agg [(.int .i64 0),(.int .i64 0)] [(0, 1, (ki 100)),(1, 1, (ki 101))]),xo 26 (.mkl 70 2 [(.int .i64 0),(.int .i64 0)] 1 [(0, (.t 25))] false),xo 27 (.call 50 [(true, (.t 24)),(true, (.t 26))]),xm 23 27,xo 28 (.ext (.t 23) 0),xo 29 (.ext (.t 23) 1),xm 5 28,xm 6 29] (rng 23 7))
(.seq (.reg [xm 31 1,xm 32 3,xo 33 (.call 49 [(true, (.t 31)),(true, (.t 32))]),xm 30 33,xo 34 (.ext (.t 30) 0),xo 35 (.ext (.t 30) 1),xm 7 34,xm 8 35] (rng 30 6))
(.seq (.reg [xm 36 2,xm 37 36,xt 38 37 (.mov (.t 1)),xt 39 37 (.agg [(.int .i64 0),(.int .i64 0)] [(0, 1, (ki 97)),(1, 1, (ki 100))]),xt 40 37 (.agg [(.int .i64 0),(.int .i64 0)] [(0, 1, (ki 55295)),(1, 1, (ki 57345))]),xt 41 37 (.mkl 70 2 [(.int .i64 0),(.int .i64 0)] 2 [(0, (.t 39)),(1, (.t 40))] false),xt 42 37 (.call 63 [(true, (.t 38)),(true, (.t 41))]),xo 43 (.pick (.t 37) (.t 42) kf),xm 44 43,xt 45 44 (.mov (.t 4)),xo 46 (.pick (.t 44) (.t 45) kf),xm 47 46,xt 48 47 (.mov (.t 3)),xt 49 47 (.len 1 (.t 48)),xt 50 47 (.bin .eql 0 (.t 49) (ki 3)),xo 51 (.pick (.t 47) (.t 50) kf),xm 52 51,xt 53 52 (.mov (.t 6)),xo 54 (.pick (.t 52) (.t 53) kf),xm 55 54,xt 56 55 (.mov (.t 5)),xt 57 55 (.agg [(.int .i64 0),(.int .i64 0)] [(0, 1, (ki 100)),(1, 1, (ki 100))]),xt 58 55 (.mkl 70 2 [(.int .i64 0),(.int .i64 0)] 1 [(0, (.t 57))] false),xt 59 55 (.call 63 [(true, (.t 56)),(true, (.t 58))]),xo 60 (.pick (.t 55) (.t 59) kf),xm 61 60,xt 62 61 (.mov (.t 8)),xo 63 (.pick (.t 61) (.t 62) kf),xm 64 63,xt 65 64 (.mov (.t 7)),xt 66 64 (.agg [(.int .i64 0),(.int .i64 0)] [(0, 1, (ki 0)),(1, 1, (ki 1114111))]),xt 67 64 (.mkl 70 2 [(.int .i64 0),(.int .i64 0)] 1 [(0, (.t 66))] false),xt 68 64 (.call 63 [(true, (.t 65)),(true, (.t 67))]),xo 69 (.pick (.t 64) (.t 68) kf),xm 70 69,xt 71 70 (.mov (.t 1)),xt 72 70 (.call 60 [(true, (.t 71))]),xt 73 70 (.bin .eql 0 (.t 72) (ki 7)),xo 74 (.pick (.t 70) (.t 73) kf),xm 75 74,xt 76 75 (.mov (.t 1)),xt 77 75 (.call 58 [(true, (.t 76)),(true, (ki 55295))]),xo 78 (.pick (.t 75) (.t 77) kf),xm 79 78,xt 80 79 (.mov (.t 1)),xt 81 79 (.call 58 [(true, (.t 80)),(true, (ki 55552))]),xt 82 79 (.un .not (.t 81)),xo 83 (.pick (.t 79) (.t 82) kf),xm 84 83,xt 85 84 (.mov (.t 1)),xt 86 84 (.call 56 [(true, (.t 85))]),xo 87 (.pick (.t 84) (.t 86) kf),xm 88 87,xt 89 88 (.agg [(.int .i64 0),(.int .i64 0)] [(0, 1, (ki 1)),(1, 1, (ki 2))]),xt 90 88 (.agg [(.int .i64 0),(.int .i64 0)] [(0, 1, (ki 3)),(1, 1, (ki 4))]),xt 91 88 (.mkl 70 2 [(.int .i64 0),(.int .i64 0)] 2 [(0, (.t 89)),(1, (.t 90))] false),xt 92 88 (.call 56 [(true, (.t 91))]),xt 93 88 (.un .not (.t 92)),xo 94 (.pick (.t 88) (.t 93) kf),xm 95 94,xt 96 95 (.mov (.t 1)),xt 97 95 (.mov (.t 5)),xt 98 95 (.call 64 [(true, (.t 96)),(true, (.t 97))]),xo 99 (.pick (.t 95) (.t 98) kf),xm 100 99,xt 101 100 (.mov (.t 1)),xt 102 100 (.mov (.t 1)),xt 103 100 (.call 62 [(true, (.t 101)),(true, (.t 102))]),xo 104 (.pick (.t 100) (.t 103) kf),xm 0 104] (rng 36 69))
.ret))))))
/-- caesura/caesuralaw03.wakes -/
def fn47 : AFn := ⟨0, 105, c47, [(.t 0)], 0⟩
theorem fn47_body : fn47.body = c47 := rfl
theorem fn47_res : fn47.res = [(.t 0)] := rfl
theorem fn47_keep : fn47.keep = 0 := rfl
def c48 : ACode :=
(.seq (.reg [xo 2 (.anil 70 2),xo 3 (.mov kf)] [])
(.seq (.reg [xo 4 (.anil 70 2)] [])
(.seq (.seq (.reg [xm 8 0,xo 9 (.call 86 [(true, (.t 8))]),xo 10 (.call 85 [(false, (.t 9)),(false, (.k (.func 87 [])))]),xo 11 (.len 1 (.t 10)),xo 12 (.mov (ki 0))] [8,9])
(.block 0 (.loop false (.seq (.reg [xo 13 (.bin .lss 0 (.t 12) (.t 11))] [])
(.seq (.cond (.t 13) [13] .skip (.exit 0))
(.seq (.block 1 (.seq (.reg [xo 14 (.iaddr 2 (.t 10) (.t 12)),xo 15 (.load true 2 (.t 14)),xo 6 (.new [(.int .i64 0),(.int .i64 0)]),xn (.store false 2 (.t 6) (.t 15))] [14,15])
(.seq (.reg [xm 16 4,xo 17 (.len 1 (.t 16)),xm 7 17] [16,17])
(.block 2 (.seq (.reg [xo 33 (.load true 2 (.t 6)),xo 34 (.call 88 [(true, (.t 33))]),xo 35 (.un .not (.t 34)),xm 32 35] [33,34,35])
(.cond (.t 32) [32] (.seq (.reg [xo 2 (.anil 70 2),xo 3 (.mov kf)] [])
.ret) (.seq (.dreg [xm 37 7,yo 38 (.bin .eql 0 (.t 37) (ki 0)) [0],ym 39 38 [0, 1],yf 40 39 (.mov (.t 4)) [0, 1, 2],yf 41 39 (.mov (.t 7)) [0, 1, 2],yf 42 39 (.bin .sub 0 (.t 41) (ki 1)) [0, 1, 2, 4],yf 43 39 (.iaddr 2 (.t 40) (.t 42)) [0, 1, 2, 3, 4, 5],yf 44 39 (.load true 2 (.t 43)) [0, 1, 2, 3, 4, 5, 6],yf 45 39 (.load true 2 (.t 6)) [0, 1, 2],yf 46 39 (.call 89 [(true, (.t 44)),(true, (.t 45))]) [0, 1, 2, 3, 4, 5, 6, 7, 8],yo 47 (.pick (.t 39) kt (.t 46)) [0, 1, 2, 3, 4, 5, 6, 7, 8, 9],ym 36 47 (rng 0 11)] (rng 37 11))
(.cond (.t 36) [36] (.reg [xm 48 4,xo 49 (.load true 2 (.t 6)),xo 50 (.mkl 70 2 [(.int .i64 0),(.int .i64 0)] 1 [(0, (.t 49))] false),xo 51 (.app 70 2 16 (.t 48) (.t 50)),xm 4 51] (rng 48 4)) (.dreg [xm 18 4,xm 19 7,yo 20 (.bin .sub 0 (.t 19) (ki 1)) [1],xm 21 4,xm 22 7,yo 23 (.bin .sub 0 (.t 22) (ki 1)) [4],yo 24 (.iaddr 2 (.t 21) (.t 23)) [3, 4, 5],yo 25 (.faddr 1 (.t 24)) [3, 4, 5, 6],yo 26 (.load false 1 (.t 25)) [3, 4, 5, 6, 7],xo 27 (.faddr 1 (.t 6)),yo 28 (.load false 1 (.t 27)) [9],yo 29 (.mm true [(.t 26),(.t 28)]) [3, 4, 5, 6, 7, 8, 9, 10],yo 30 (.iaddr 2 (.t 18) (.t 20)) [0, 1, 2, 3, 4, 5, 6, 7, 8, 9, 10, 11],yo 31 (.faddr 1 (.t 30)) [0, 1, 2, 3, 4, 5, 6, 7, 8, 9, 10, 11, 12],⟨none, none, .store false 1 (.t 31) (.t 29), [0, 1, 2, 3, 4, 5, 6, 7, 8, 9, 10, 11, 12, 13]⟩] (rng 18 14))))))))))
(.reg [xo 52 (.bin .add 0 (.t 12) (ki 1)),xm 12 52] [52])))))))
(.seq (.reg [xm 53 4,xm 2 53,xo 3 (.mov kt)] [53])
.ret))))
/-- caesura/sets.Of -/
def fn48 : AFn := ⟨1, 54, c48, [(.t 2),(.t 3)], 0⟩
theorem fn48_body : fn48.body = c48 := rfl
theorem fn48_res : fn48.res = [(.t 2), (.t 3)] := rfl
theorem fn48_keep : fn48.keep = 0 := rfl
def c49 : ACode :=
(.seq (.reg [xo 4 (.anil 70 2),xo 5 (.mov kf)] [])
(.seq (.seq (.reg [xm 6 0,xo 7 (.call 56 [(true, (.t 6))]),xo 8 (.un .not (.t 7)),xm 9 8,xf 10 9 (.mov (.t 1)),xf 11 9 (.call 56 [(true, (.t 10))]),xf 12 9 (.un .not (.t 11)),xo 13 (.pick (.t 9) kt (.t 12))] (rng 6 7))
(.cond (.t 13) [13] (.seq (.reg [xo 4 (.anil 70 2),xo 5 (.mov kf)] [])
.ret) .skip))
(.seq (.reg [xm 14 0,xm 15 1,xo 16 (.mkl 25 1 [(.list 2 [])] 2 [(0, (.t 14)),(1, (.t 15))] false),xo 17 (.call 90 [(true, (.t 16))]),xo 18 (.call 48 [(true, (.t 17))]),xo 19 (.ext (.t 18) 0),xo 20 (.ext (.t 18) 1),xm 4 19,xm 5 20] (rng 14 7))
.ret)))
/-- caesura/sets.Union -/
def fn49 : AFn := ⟨2, 21, c49, [(.t 4),(.t 5)], 0⟩
theorem fn49_body : fn49.body = c49 := rfl
theorem fn49_res : fn49.res = [(.t 4), (.t 5)] := rfl
theorem fn49_keep : fn49.keep = 0 := rfl
def c50 : ACode :=
(.seq (.reg [xo 4 (.anil 70 2),xo 5 (.mov kf)] [])
(.seq (.seq (.reg [xm 8 0,xo 9 (.call 56 [(true, (.t 8))]),xo 10 (.un .not (.t 9)),xm 11 10,xf 12 11 (.mov (.t 1)),xf 13 11 (.call 56 [(true, (.t 12))]),xf 14 11 (.un .not (.t 13)),xo 15 (.pick (.t 11) kt (.t 14))] (rng 8 7))
(.cond (.t 15) [15] (.seq (.reg [xo 4 (.anil 70 2),xo 5 (.mov kf)] [])
.ret) .skip))
(.seq (.reg [xo 6 (.anil 70 2)] [])
(.seq (.block 0 (.loop false (.seq (.seq (.reg [xm 16 0,xo 17 (.len 1 (.t 16)),xo 18 (.bin .gtr 0 (.t 17) (ki 0)),xm 19 18,xt 20 19 (.mov (.t 1)),xt 21 19 (.len 1 (.t 20)),xt 22 19 (.bin .gtr 0 (.t 21) (ki 0)),xo 23 (.pick (.t 19) (.t 22) kf)] (rng 16 7))
(.cond (.t 23) [23] .skip (.exit 0)))
(.block 1 (.seq (.dreg [xm 24 0,yo 25 (.iaddr 2 (.t 24) (ki 0)) [0],yo 26 (.faddr 0 (.t 25)) [0, 1],yo 27 (.load false 1 (.t 26)) [0, 1, 2],xm 28 1,yo 29 (.iaddr 2 (.t 28) (ki 0)) [4],yo 30 (.faddr 0 (.t 29)) [4, 5],yo 31 (.load false 1 (.t 30)) [4, 5, 6],yo 32 (.mm true [(.t 27),(.t 31)]) [0, 1, 2, 3, 4, 5, 6, 7],xm 33 0,yo 34 (.iaddr 2 (.t 33) (ki 0)) [9],yo 35 (.faddr 1 (.t 34)) [9, 10],yo 36 (.load false 1 (.t 35)) [9, 10, 11],xm 37 1,yo 38 (.iaddr 2 (.t 37) (ki 0)) [13],yo 39 (.faddr 1 (.t 38)) [13, 14],yo 40 (.load false 1 (.t 39)) [13, 14, 15],yo 41 (.mm false [(.t 36),(.t 40)]) [9, 10, 11, 12, 13, 14, 15, 16],yo 42 (.agg [(.int .i64 0),(.int .i64 0)] [(0, 1, (.t 32)),(1, 1, (.t 41))]) [0, 1, 2, 3, 4, 5, 6, 7, 8, 9, 10, 11, 12, 13, 14, 15, 16, 17],xo 7 (.new [(.int .i64 0),(.int .i64 0)]),⟨none, none, .store false 2 (.t 7) (.t 42), [0, 1, 2, 3, 4, 5, 6, 7, 8, 9, 10, 11, 12, 13, 14, 15, 16, 17, 18, 19]⟩] (rng 24 19))
(.seq (.seq (.reg [xo 43 (.faddr 0 (.t 7)),xo 44 (.load false 1 (.t 43)),xo 45 (.faddr 1 (.t 7)),xo 46 (.load false 1 (.t 45)),xo 47 (.bin .leq 0 (.t 44) (.t 46))] (rng 43 4))
(.cond (.t 47) [47] (.reg [xm 48 6,xo 49 (.load true 2 (.t 7)),xo 50 (.mkl 70 2 [(.int .i64 0),(.int .i64 0)] 1 [(0, (.t 49))] false),xo 51 (.app 70 2 16 (.t 48) (.t 50)),xm 6 51] (rng 48 4)) .skip))
(.seq (.dreg [xm 52 0,yo 53 (.iaddr 2 (.t 52) (ki 0)) [0],yo 54 (.faddr 1 (.t 53)) [0, 1],yo 55 (.load false 1 (.t 54)) [0, 1, 2],xm 56 1,yo 57 (.iaddr 2 (.t 56) (ki 0)) [4],yo 58 (.faddr 1 (.t 57)) [4, 5],yo 59 (.load false 1 (.t 58)) [4, 5, 6],yo 60 (.bin .lss 0 (.t 55) (.t 59)) (rng 0 8)] (rng 52 8))
(.cond (.t 60) [60] (.reg [xm 61 0,xo 62 (.slc 2 (.t 61) (some (ki 1)) none none),xm 0 62] [61,62]) (.reg [xm 63 1,xo 64 (.slc 2 (.t 63) (some (ki 1)) none none),xm 1 64] [63,64])))))))))
(.seq (.reg [xm 65 6,xm 4 65,xo 5 (.mov kt)] [65])
.ret)))))
/-- caesura/sets.Both -/
def fn50 : AFn := ⟨2, 66, c50, [(.t 4),(.t 5)], 0⟩
theorem fn50_body : fn50.body = c50 := rfl
theorem fn50_res : fn50.res = [(.t 4), (.t 5)] := rfl
theorem fn50_keep : fn50.keep = 0 := rfl
def c51 : ACode :=
(.seq (.reg [xo 2 (.anil 70 2),xo 3 (.mov kf)] [])
(.seq (.seq (.reg [xm 11 0,xo 12 (.call 56 [(true, (.t 11))]),xo 13 (.un .not (.t 12))] [11,12])
(.cond (.t 13) [13] (.seq (.reg [xo 2 (.anil 70 2),xo 3 (.mov kf)] [])
.ret) .skip))
(.seq (.reg [xo 4 (.anil 70 2)] [])
(.seq (.reg [xo 5 (.mov (ki 0)),xo 6 (.mov kt)] [])
(.seq (.seq (.reg [xm 14 0,xo 15 (.len 1 (.t 14)),xo 16 (.mov (ki 0))] [])
(.block 0 (.loop false (.seq (.reg [xo 17 (.bin .lss 0 (.t 16) (.t 15))] [])
(.seq (.cond (.t 17) [17] .skip (.exit 0))
(.seq (.block 1 (.seq (.reg [xo 18 (.iaddr 2 (.t 14) (.t 16)),xo 19 (.load true 2 (.t 18)),xo 8 (.new [(.int .i64 0),(.int .i64 0)]),xn (.store false 2 (.t 8) (.t 19))] [18,19])
(.seq (.seq (.reg [xo 21 (.faddr 0 (.t 8)),xo 22 (.load false 1 (.t 21)),xo 23 (.call 91 [(true, (.t 22))]),xm 20 23,xo 24 (.ext (.t 20) 0),xo 25 (.ext (.t 20) 1),xm 9 24,xm 10 25] (rng 20 6))
(.seq (.reg [xm 26 10,xm 27 26,xt 28 27 (.mov (.t 5)),xt 29 27 (.mov (.t 9)),xt 30 27 (.bin .leq 0 (.t 28) (.t 29)),xo 31 (.pick (.t 27) (.t 30) kf)] (rng 26 5))
(.cond (.t 31) [31] (.reg [xm 32 4,xm 33 5,xm 34 9,xo 35 (.agg [(.int .i64 0),(.int .i64 0)] [(0, 1, (.t 33)),(1, 1, (.t 34))]),xo 36 (.mkl 70 2 [(.int .i64 0),(.int .i64 0)] 1 [(0, (.t 35))] false),xo 37 (.app 70 2 16 (.t 32) (.t 36)),xm 4 37] (rng 32 6)) .skip)))
(.reg [xo 39 (.faddr 1 (.t 8)),xo 40 (.load false 1 (.t 39)),xo 41 (.call 92 [(true, (.t 40))]),xm 38 41,xo 42 (.ext (.t 38) 0),xo 43 (.ext (.t 38) 1),xm 5 42,xm 6 43] (rng 38 6)))))
(.reg [xo 44 (.bin .add 0 (.t 16) (ki 1)),xm 16 44] [44])))))))
(.seq (.seq (.reg [xm 45 6] [])
(.cond (.t 45) [45] (.reg [xm 46 4,xm 47 5,xo 48 (.agg [(.int .i64 0),(.int .i64 0)] [(0, 1, (.t 47)),(1, 1, (ki 1114111))]),xo 49 (.mkl 70 2 [(.int .i64 0),(.int .i64 0)] 1 [(0, (.t 48))] false),xo 50 (.app 70 2 16 (.t 46) (.t 49)),xm 4 50] (rng 46 5)) .skip))
(.seq (.reg [xm 51 4,xm 2 51,xo 3 (.mov kt)] [51])
.ret)))))))
/-- caesura/sets.Not -/
def fn51 : AFn := ⟨1, 52, c51, [(.t 2),(.t 3)], 0⟩
theorem fn51_body : fn51.body = c51 := rfl
theorem fn51_res : fn51.res = [(.t 2), (.t 3)] := rfl
theorem fn51_keep : fn51.keep = 0 := rfl
def c52 : ACode :=
(.seq (.reg [xo 2 (.new [(.list 2 []),(.bool false)])] [])
(.seq (.seq (.reg [xo 3 (.mov (ki 0))] [])
(.block 0 (.loop false (.seq (.seq (.reg [xm 8 3,xm 9 0,xo 10 (.len 1 (.t 9)),xo 11 (.bin .lss 0 (.t 8) (.t 10))] [8,9,10])
(.cond (.t 11) [11] .skip (.exit 0)))
(.seq (.block 1 (.seq (.dreg [xm 14 0,xm 15 3,yo 16 (.iaddr 2 (.t 14) (.t 15)) [0, 1],yo 17 (.faddr 0 (.t 16)) [0, 1, 2],yo 18 (.load false 1 (.t 17)) [0, 1, 2, 3],yo 19 (.call 66 [(true, (.t 18))]) [0, 1, 2, 3, 4],yo 20 (.un .not (.t 19)) [0, 1, 2, 3, 4, 5],ym 21 20 [0, 1, 2, 3, 4, 5, 6],yf 22 21 (.mov (.t 0)) [0, 1, 2, 3, 4, 5, 6, 7],yf 23 21 (.mov (.t 3)) [0, 1, 2, 3, 4, 5, 6, 7],yf 24 21 (.iaddr 2 (.t 22) (.t 23)) [0, 1, 2, 3, 4, 5, 6, 7, 8, 9],yf 25 21 (.faddr 1 (.t 24)) [0, 1, 2, 3, 4, 5, 6, 7, 8, 9, 10],yf 26 21 (.load false 1 (.t 25)) [0, 1, 2, 3, 4, 5, 6, 7, 8, 9, 10, 11],yf 27 21 (.call 66 [(true, (.t 26))]) [0, 1, 2, 3, 4, 5, 6, 7, 8, 9, 10, 11, 12],yf 28 21 (.un .not (.t 27)) [0, 1, 2, 3, 4, 5, 6, 7, 8, 9, 10, 11, 12, 13],yo 29 (.pick (.t 21) kt (.t 28)) [0, 1, 2, 3, 4, 5, 6, 7, 8, 9, 10, 11, 12, 13, 14],ym 30 29 [0, 1, 2, 3, 4, 5, 6, 7, 8, 9, 10, 11, 12, 13, 14, 15],yf 31 30 (.mov (.t 0)) [0, 1, 2, 3, 4, 5, 6, 7, 8, 9, 10, 11, 12, 13, 14, 15, 16],yf 32 30 (.mov (.t 3)) [0, 1, 2, 3, 4, 5, 6, 7, 8, 9, 10, 11, 12, 13, 14, 15, 16],yf 33 30 (.iaddr 2 (.t 31) (.t 32)) [0, 1, 2, 3, 4, 5, 6, 7, 8, 9, 10, 11, 12, 13, 14, 15, 16, 17, 18],yf 34 30 (.faddr 1 (.t 33)) [0, 1, 2, 3, 4, 5, 6, 7, 8, 9, 10, 11, 12, 13, 14, 15, 16, 17, 18, 19],yf 35 30 (.load false 1 (.t 34)) [0, 1, 2, 3, 4, 5, 6, 7, 8, 9, 10, 11, 12, 13, 14, 15, 16, 17, 18, 19, 20],yf 36 30 (.mov (.t 0)) [0, 1, 2, 3, 4, 5, 6, 7, 8, 9, 10, 11, 12, 13, 14, 15, 16],yf 37 30 (.mov (.t 3)) [0, 1, 2, 3, 4, 5, 6, 7, 8, 9, 10, 11, 12, 13, 14, 15, 16],yf 38 30 (.iaddr 2 (.t 36) (.t 37)) [0, 1, 2, 3, 4, 5, 6, 7, 8, 9, 10, 11, 12, 13, 14, 15, 16, 22, 23],yf 39 30 (.faddr 0 (.t 38)) [0, 1, 2, 3, 4, 5, 6, 7, 8, 9, 10, 11, 12, 13, 14, 15, 16, 22, 23, 24],yf 40 30 (.load false 1 (.t 39)) [0, 1, 2, 3, 4, 5, 6, 7, 8, 9, 10, 11, 12, 13, 14, 15, 16, 22, 23, 24, 25],yf 41 30 (.bin .lss 0 (.t 35) (.t 40)) [0, 1, 2, 3, 4, 5, 6, 7, 8, 9, 10, 11, 12, 13, 14, 15, 16, 17, 18, 19, 20, 21, 22, 23, 24, 25, 26],yo 42 (.pick (.t 30) kt (.t 41)) (rng 0 28)] (rng 14 28))
(.cond (.t 42) [42] (.seq (.reg [xo 43 (.agg [(.list 2 []),(.bool false)] []),xn (.store false 2 (.t 2) (.t 43))] [43])
.ret) .skip)))
(.reg [xm 12 3,xo 13 (.bin .add 0 (.t 12) (ki 1)),xm 3 13] [12,13]))))))
(.seq (.reg [xm 44 0,xo 45 (.call 93 [(true, (.t 44))]),xm 4 45] [44,45])
(.seq (.reg [xm 46 4,xo 47 (.len 1 (.t 46)),xo 48 (.mks 4 1 1 [(.bool false)] (.t 47)),xm 5 48] [46,47,48])
(.seq (.seq (.reg [xo 6 (.mov (ki 0))] [])
(.block 2 (.loop false (.seq (.seq (.reg [xm 49 6,xm 50 4,xo 51 (.len 1 (.t 50)),xo 52 (.bin .lss 0 (.t 49) (.t 51))] [49,50,51])
(.cond (.t 52) [52] .skip (.exit 2)))
(.seq (.block 3 (.seq (.reg [xo 7 (.mov (ki 0))] [])
(.block 4 (.loop false (.seq (.seq (.reg [xm 55 7,xm 56 0,xo 57 (.len 1 (.t 56)),xo 58 (.bin .lss 0 (.t 55) (.t 57))] [55,56,57])
(.cond (.t 58) [58] .skip (.exit 4)))
(.seq (.block 5 (.dreg [xm 61 5,xm 62 6,xm 63 5,xm 64 6,yo 65 (.iaddr 1 (.t 63) (.t 64)) [2, 3],yo 66 (.load false 1 (.t 65)) [2, 3, 4],ym 67 66 [2, 3, 4, 5],yf 68 67 (.mov (.t 0)) [2, 3, 4, 5, 6],yf 69 67 (.mov (.t 7)) [2, 3, 4, 5, 6],yf 70 67 (.iaddr 2 (.t 68) (.t 69)) [2, 3, 4, 5, 6, 7, 8],yf 71 67 (.faddr 0 (.t 70)) [2, 3, 4, 5, 6, 7, 8, 9],yf 72 67 (.load false 1 (.t 71)) [2, 3, 4, 5, 6, 7, 8, 9, 10],yf 73 67 (.mov (.t 4)) [2, 3, 4, 5, 6],yf 74 67 (.mov (.t 6)) [2, 3, 4, 5, 6],yf 75 67 (.iaddr 1 (.t 73) (.t 74)) [2, 3, 4, 5, 6, 12, 13],yf 76 67 (.load false 1 (.t 75)) [2, 3, 4, 5, 6, 12, 13, 14],yf 77 67 (.bin .leq 0 (.t 72) (.t 76)) [2, 3, 4, 5, 6, 7, 8, 9, 10, 11, 12, 13, 14, 15],yf 78 67 (.mov (.t 77)) [2, 3, 4, 5, 6, 7, 8, 9, 10, 11, 12, 13, 14, 15, 16],yt 79 78 (.mov (.t 4)) [2, 3, 4, 5, 6, 7, 8, 9, 10, 11, 12, 13, 14, 15, 16, 17],yt 80 78 (.mov (.t 6)) [2, 3, 4, 5, 6, 7, 8, 9, 10, 11, 12, 13, 14, 15, 16, 17],yt 81 78 (.iaddr 1 (.t 79) (.t 80)) [2, 3, 4, 5, 6, 7, 8, 9, 10, 11, 12, 13, 14, 15, 16, 17, 18, 19],yt 82 78 (.load false 1 (.t 81)) [2, 3, 4, 5, 6, 7, 8, 9, 10, 11, 12, 13, 14, 15, 16, 17, 18, 19, 20],yt 83 78 (.mov (.t 0)) [2, 3, 4, 5, 6, 7, 8, 9, 10, 11, 12, 13, 14, 15, 16, 17],yt 84 78 (.mov (.t 7)) [2, 3, 4, 5, 6, 7, 8, 9, 10, 11, 12, 13, 14, 15, 16, 17],yt 85 78 (.iaddr 2 (.t 83) (.t 84)) [2, 3, 4, 5, 6, 7, 8, 9, 10, 11, 12, 13, 14, 15, 16, 17, 22, 23],yt 86 78 (.faddr 1 (.t 85)) [2, 3, 4, 5, 6, 7, 8, 9, 10, 11, 12, 13, 14, 15, 16, 17, 22, 23, 24],yt 87 78 (.load false 1 (.t 86)) [2, 3, 4, 5, 6, 7, 8, 9, 10, 11, 12, 13, 14, 15, 16, 17, 22, 23, 24, 25],yt 88 78 (.bin .leq 0 (.t 82) (.t 87)) [2, 3, 4, 5, 6, 7, 8, 9, 10, 11, 12, 13, 14, 15, 16, 17, 18, 19, 20, 21, 22, 23, 24, 25, 26],yf 89 67 (.pick (.t 78) (.t 88) kf) [2, 3, 4, 5, 6, 7, 8, 9, 10, 11, 12, 13, 14, 15, 16, 17, 18, 19, 20, 21, 22, 23, 24, 25, 26, 27],yo 90 (.pick (.t 67) kt (.t 89)) [2, 3, 4, 5, 6, 7, 8, 9, 10, 11, 12, 13, 14, 15, 16, 17, 18, 19, 20, 21, 22, 23, 24, 25, 26, 27, 28],yo 91 (.iaddr 1 (.t 61) (.t 62)) [0, 1, 2, 3, 4, 5, 6, 7, 8, 9, 10, 11, 12, 13, 14, 15, 16, 17, 18, 19, 20, 21, 22, 23, 24, 25, 26, 27, 28, 29],⟨none, none, .store false 1 (.t 91) (.t 90), [0, 1, 2, 3, 4, 5, 6, 7, 8, 9, 10, 11, 12, 13, 14, 15, 16, 17, 18, 19, 20, 21, 22, 23, 24, 25, 26, 27, 28, 29, 30]⟩] (rng 61 31)))
(.reg [xm 59 7,xo 60 (.bin .add 0 (.t 59) (ki 1)),xm 7 60] [59,60])))))))
(.reg [xm 53 6,xo 54 (.bin .add 0 (.t 53) (ki 1)),xm 6 54] [53,54]))))))
(.seq (.reg [xm 92 4,xm 93 5,xo 94 (.call 94 [(true, (.t 92)),(true, (.t 93))]),xo 95 (.agg [(.list 2 []),(.bool false)] [(0, 1, (.t 94)),(1, 1, kt)]),xn (.store false 2 (.t 2) (.t 95))] (rng 92 4))
.ret))))))
/-- caesura/caesuraref03.Of -/
def fn52 : AFn := ⟨1, 96, c52, [(.c 2 true 2)], 0⟩
theorem fn52_body : fn52.body = c52 := rfl
theorem fn52_res : fn52.res = [(.c 2 true 2)] := rfl
theorem fn52_keep : fn52.keep = 0 := rfl
def c53 : ACode :=
(.seq (.reg [xo 4 (.new [(.list 2 []),(.bool false)])] [])
(.seq (.reg [xm 5 0,xm 6 1,xo 7 (.call 95 [(true, (.t 5)),(true, (.t 6)),(true, kf)]),xn (.store false 2 (.t 4) (.t 7))] [5,6,7])
.ret))
/-- caesura/caesuraref03.Union -/
def fn53 : AFn := ⟨2, 8, c53, [(.c 4 true 2)], 0⟩
theorem fn53_body : fn53.body = c53 := rfl
theorem fn53_res : fn53.res = [(.c 4 true 2)] := rfl
theorem fn53_keep : fn53.keep = 0 := rfl
def c54 : ACode :=
(.seq (.reg [xo 4 (.new [(.list 2 []),(.bool false)])] [])
(.seq (.reg [xm 5 0,xm 6 1,xo 7 (.call 95 [(true, (.t 5)),(true, (.t 6)),(true, kt)]),xn (.store false 2 (.t 4) (.t 7))] [5,6,7])
.ret))
/-- caesura/caesuraref03.Both -/
def fn54 : AFn := ⟨2, 8, c54, [(.c 4 true 2)], 0⟩
theorem fn54_body : fn54.body = c54 := rfl
theorem fn54_res : fn54.res = [(.c 4 true 2)] := rfl
theorem fn54_keep : fn54.keep = 0 := rfl
def c55 : ACode :=
(.seq (.reg [xo 2 (.new [(.list 2 []),(.bool false)])] [])
(.seq (.seq (.reg [xm 6 0,xo 7 (.call 57 [(true, (.t 6))]),xo 8 (.un .not (.t 7))] [6,7])
(.cond (.t 8) [8] (.seq (.reg [xo 9 (.agg [(.list 2 []),(.bool false)] []),xn (.store false 2 (.t 2) (.t 9))] [9])
.ret) .skip))
(.seq (.reg [xm 10 0,xo 11 (.call 93 [(true, (.t 10))]),xm 3 11] [10,11])
(.seq (.reg [xm 12 3,xo 13 (.len 1 (.t 12)),xo 14 (.mks 4 1 1 [(.bool false)] (.t 13)),xm 4 14] [12,13,14])
(.seq (.seq (.reg [xo 5 (.mov (ki 0))] [])
(.block 0 (.loop false (.seq (.seq (.reg [xm 15 5,xm 16 3,xo 17 (.len 1 (.t 16)),xo 18 (.bin .lss 0 (.t 15) (.t 17))] [15,16,17])
(.cond (.t 18) [18] .skip (.exit 0)))
(.seq (.block 1 (.reg [xm 21 4,xm 22 5,xm 23 0,xm 24 3,xm 25 5,xo 26 (.iaddr 1 (.t 24) (.t 25)),xo 27 (.load false 1 (.t 26)),xo 28 (.call 59 [(true, (.t 23)),(true, (.t 27))]),xo 29 (.un .not (.t 28)),xo 30 (.iaddr 1 (.t 21) (.t 22)),xn (.store false 1 (.t 30) (.t 29))] (rng 21 10)))
(.reg [xm 19 5,xo 20 (.bin .add 0 (.t 19) (ki 1)),xm 5 20] [19,20]))))))
(.seq (.reg [xm 31 3,xm 32 4,xo 33 (.call 94 [(true, (.t 31)),(true, (.t 32))]),xo 34 (.agg [(.list 2 []),(.bool false)] [(0, 1, (.t 33)),(1, 1, kt)]),xn (.store false 2 (.t 2) (.t 34))] (rng 31 4))
.ret))))))
/-- caesura/caesuraref03.Not -/
def fn55 : AFn := ⟨1, 35, c55, [(.c 2 true 2)], 0⟩
theorem fn55_body : fn55.body = c55 := rfl
theorem fn55_res : fn55.res = [(.c 2 true 2)] := rfl
theorem fn55_keep : fn55.keep = 0 := rfl
def c56 : ACode :=
(.seq (.reg [xo 2 (.mov kf)] [])
(.seq (.seq (.reg [xm 5 0,xo 6 (.len 1 (.t 5)),xo 7 (.mov (ki 0))] [])
(.block 0 (.loop false (.seq (.reg [xo 8 (.bin .lss 0 (.t 7) (.t 6))] [])
(.seq (.cond (.t 8) [8] .skip (.exit 0))
(.seq (.block 1 (.seq (.reg [xm 9 7,xo 10 (.iaddr 2 (.t 5) (.t 7)),xo 11 (.load true 2 (.t 10)),xo 4 (.new [(.int .i64 0),(.int .i64 0)]),xm 3 9,xn (.store false 2 (.t 4) (.t 11))] [9,10,11])
(.seq (.dreg [xo 12 (.load true 2 (.t 4)),yo 13 (.call 88 [(true, (.t 12))]) [0],yo 14 (.un .not (.t 13)) [0, 1],ym 15 14 [0, 1, 2],yf 16 15 (.mov (.t 3)) [0, 1, 2, 3],yf 17 15 (.bin .gtr 0 (.t 16) (ki 0)) [0, 1, 2, 3, 4],yf 18 15 (.mov (.t 17)) [0, 1, 2, 3, 4, 5],yt 19 18 (.mov (.t 0)) [0, 1, 2, 3, 4, 5, 6],yt 20 18 (.mov (.t 3)) [0, 1, 2, 3, 4, 5, 6],yt 21 18 (.bin .sub 0 (.t 20) (ki 1)) [0, 1, 2, 3, 4, 5, 6, 8],yt 22 18 (.iaddr 2 (.t 19) (.t 21)) [0, 1, 2, 3, 4, 5, 6, 7, 8, 9],yt 23 18 (.load true 2 (.t 22)) [0, 1, 2, 3, 4, 5, 6, 7, 8, 9, 10],yt 24 18 (.load true 2 (.t 4)) [0, 1, 2, 3, 4, 5, 6],yt 25 18 (.call 89 [(true, (.t 23)),(true, (.t 24))]) [0, 1, 2, 3, 4, 5, 6, 7, 8, 9, 10, 11, 12],yt 26 18 (.un .not (.t 25)) [0, 1, 2, 3, 4, 5, 6, 7, 8, 9, 10, 11, 12, 13],yf 27 15 (.pick (.t 18) (.t 26) kf) [0, 1, 2, 3, 4, 5, 6, 7, 8, 9, 10, 11, 12, 13, 14],yo 28 (.pick (.t 15) kt (.t 27)) (rng 0 16)] (rng 12 16))
(.cond (.t 28) [28] (.seq (.reg [xo 2 (.mov kf)] [])
.ret) .skip))))
(.reg [xo 29 (.bin .add 0 (.t 7) (ki 1)),xm 7 29] [29])))))))
(.seq (.reg [xo 2 (.mov kt)] [])
.ret)))
/-- caesura/sets.Good -/
def fn56 : AFn := ⟨1, 30, c56, [(.t 2)], 0⟩
theorem fn56_body : fn56.body = c56 := rfl
theorem fn56_res : fn56.res = [(.t 2)] := rfl
theorem fn56_keep : fn56.keep = 0 := rfl
def c57 : ACode :=
(.seq (.reg [xo 2 (.mov kf)] [])
(.seq (.seq (.reg [xo 3 (.mov (ki 0))] [])
(.block 0 (.loop false (.seq (.seq (.reg [xm 5 3,xm 6 0,xo 7 (.len 1 (.t 6)),xo 8 (.bin .lss 0 (.t 5) (.t 7))] [5,6,7])
(.cond (.t 8) [8] .skip (.exit 0)))
(.seq (.block 1 (.seq (.seq (.dreg [xm 11 0,xm 12 3,yo 13 (.iaddr 2 (.t 11) (.t 12)) [0, 1],yo 14 (.faddr 0 (.t 13)) [0, 1, 2],yo 15 (.load false 1 (.t 14)) [0, 1, 2, 3],yo 16 (.call 66 [(true, (.t 15))]) [0, 1, 2, 3, 4],yo 17 (.un .not (.t 16)) [0, 1, 2, 3, 4, 5],ym 18 17 [0, 1, 2, 3, 4, 5, 6],yf 19 18 (.mov (.t 0)) [0, 1, 2, 3, 4, 5, 6, 7],yf 20 18 (.mov (.t 3)) [0, 1, 2, 3, 4, 5, 6, 7],yf 21 18 (.iaddr 2 (.t 19) (.t 20)) [0, 1, 2, 3, 4, 5, 6, 7, 8, 9],yf 22 18 (.faddr 1 (.t 21)) [0, 1, 2, 3, 4, 5, 6, 7, 8, 9, 10],yf 23 18 (.load false 1 (.t 22)) [0, 1, 2, 3, 4, 5, 6, 7, 8, 9, 10, 11],yf 24 18 (.call 66 [(true, (.t 23))]) [0, 1, 2, 3, 4, 5, 6, 7, 8, 9, 10, 11, 12],yf 25 18 (.un .not (.t 24)) [0, 1, 2, 3, 4, 5, 6, 7, 8, 9, 10, 11, 12, 13],yo 26 (.pick (.t 18) kt (.t 25)) [0, 1, 2, 3, 4, 5, 6, 7, 8, 9, 10, 11, 12, 13, 14],ym 27 26 [0, 1, 2, 3, 4, 5, 6, 7, 8, 9, 10, 11, 12, 13, 14, 15],yf 28 27 (.mov (.t 0)) [0, 1, 2, 3, 4, 5, 6, 7, 8, 9, 10, 11, 12, 13, 14, 15, 16],yf 29 27 (.mov (.t 3)) [0, 1, 2, 3, 4, 5, 6, 7, 8, 9, 10, 11, 12, 13, 14, 15, 16],yf 30 27 (.iaddr 2 (.t 28) (.t 29)) [0, 1, 2, 3, 4, 5, 6, 7, 8, 9, 10, 11, 12, 13, 14, 15, 16, 17, 18],yf 31 27 (.faddr 1 (.t 30)) [0, 1, 2, 3, 4, 5, 6, 7, 8, 9, 10, 11, 12, 13, 14, 15, 16, 17, 18, 19],yf 32 27 (.load false 1 (.t 31)) [0, 1, 2, 3, 4, 5, 6, 7, 8, 9, 10, 11, 12, 13, 14, 15, 16, 17, 18, 19, 20],yf 33 27 (.mov (.t 0)) [0, 1, 2, 3, 4, 5, 6, 7, 8, 9, 10, 11, 12, 13, 14, 15, 16],yf 34 27 (.mov (.t 3)) [0, 1, 2, 3, 4, 5, 6, 7, 8, 9, 10, 11, 12, 13, 14, 15, 16],yf 35 27 (.iaddr 2 (.t 33) (.t 34)) [0, 1, 2, 3, 4, 5, 6, 7, 8, 9, 10, 11, 12, 13, 14, 15, 16, 22, 23],yf 36 27 (.faddr 0 (.t 35)) [0, 1, 2, 3, 4, 5, 6, 7, 8, 9, 10, 11, 12, 13, 14, 15, 16, 22, 23, 24],yf 37 27 (.load false 1 (.t 36)) [0, 1, 2, 3, 4, 5, 6, 7, 8, 9, 10, 11, 12, 13, 14, 15, 16, 22, 23, 24, 25],yf 38 27 (.bin .lss 0 (.t 32) (.t 37)) [0, 1, 2, 3, 4, 5, 6, 7, 8, 9, 10, 11, 12, 13, 14, 15, 16, 17, 18, 19, 20, 21, 22, 23, 24, 25, 26],yo 39 (.pick (.t 27) kt (.t 38)) (rng 0 28)] (rng 11 28))
(.cond (.t 39) [39] (.seq (.reg [xo 2 (.mov kf)] [])
.ret) .skip))
(.seq (.reg [xm 40 3,xo 41 (.bin .gtr 0 (.t 40) (ki 0))] [40])
(.cond (.t 41) [41] (.seq (.reg [xm 42 0,xm 43 3,xo 44 (.bin .sub 0 (.t 43) (ki 1)),xo 45 (.iaddr 2 (.t 42) (.t 44)),xo 46 (.faddr 1 (.t 45)),xo 47 (.load false 1 (.t 46)),xo 48 (.call 96 [(true, (.t 47))]),xo 4 (.new [(.int .i64 0),(.bool false)]),xn (.store false 2 (.t 4) (.t 48))] (rng 42 7))
(.seq (.dreg [xo 49 (.faddr 1 (.t 4)),yo 50 (.load false 1 (.t 49)) [0],yo 51 (.un .not (.t 50)) [0, 1],ym 52 51 [0, 1, 2],yf 53 52 (.mov (.t 0)) [0, 1, 2, 3],yf 54 52 (.mov (.t 3)) [0, 1, 2, 3],yf 55 52 (.iaddr 2 (.t 53) (.t 54)) [0, 1, 2, 3, 4, 5],yf 56 52 (.faddr 0 (.t 55)) [0, 1, 2, 3, 4, 5, 6],yf 57 52 (.load false 1 (.t 56)) [0, 1, 2, 3, 4, 5, 6, 7],yf 58 52 (.faddr 0 (.t 4)) [0, 1, 2, 3],yf 59 52 (.load false 1 (.t 58)) [0, 1, 2, 3, 9],yf 60 52 (.bin .leq 0 (.t 57) (.t 59)) [0, 1, 2, 3, 4, 5, 6, 7, 8, 9, 10],yo 61 (.pick (.t 52) kt (.t 60)) (rng 0 12)] (rng 49 12))
(.cond (.t 61) [61] (.seq (.reg [xo 2 (.mov kf)] [])
.ret) .skip))) .skip))))
(.reg [xm 9 3,xo 10 (.bin .add 0 (.t 9) (ki 1)),xm 3 10] [9,10]))))))
(.seq (.reg [xo 2 (.mov kt)] [])
.ret)))
/-- caesura/caesuraref03.Good -/
def fn57 : AFn := ⟨1, 62, c57, [(.t 2)], 0⟩
theorem fn57_body : fn57.body = c57 := rfl
theorem fn57_res : fn57.res = [(.t 2)] := rfl
theorem fn57_keep : fn57.keep = 0 := rfl
def c58 : ACode :=
(.seq (.reg [xo 3 (.box (.t 1)),xo 4 (.mov kf)] [])
(.seq (.reg [xm 5 0,xo 6 (.call 56 [(true, (.t 5))]),xm 7 6,xt 8 7 (.load false 1 (.t 3)),xt 9 7 (.call 97 [(true, (.t 8))]),xo 10 (.pick (.t 7) (.t 9) kf),xm 11 10,xt 12 11 (.mov (.t 0)),xt 13 11 (.mkf 99 [(.t 3)]),xt 14 11 (.call 98 [(true, (.t 12)),(false, (.t 13))]),xo 15 (.pick (.t 11) (.t 14) kf),xm 4 15] (rng 5 11))
.ret))
/-- caesura/sets.Has -/
def fn58 : AFn := ⟨2, 16, c58, [(.t 4)], 0⟩
theorem fn58_body : fn58.body = c58 := rfl
theorem fn58_res : fn58.res = [(.t 4)] := rfl
theorem fn58_keep : fn58.keep = 0 := rfl
def c59 : ACode :=
(.seq (.reg [xo 4 (.mov kf)] [])
(.seq (.seq (.reg [xo 5 (.mov (ki 0))] [])
(.block 0 (.loop false (.seq (.seq (.reg [xm 6 5,xm 7 0,xo 8 (.len 1 (.t 7)),xo 9 (.bin .lss 0 (.t 6) (.t 8))] [6,7,8])
(.cond (.t 9) [9] .skip (.exit 0)))
(.seq (.block 1 (.seq (.reg [xm 12 0,xm 13 5,xo 14 (.iaddr 2 (.t 12) (.t 13)),xo 15 (.faddr 0 (.t 14)),xo 16 (.load false 1 (.t 15)),xm 17 1,xo 18 (.bin .leq 0 (.t 16) (.t 17)),xm 19 18,xt 20 19 (.mov (.t 1)),xt 21 19 (.mov (.t 0)),xt 22 19 (.mov (.t 5)),xt 23 19 (.iaddr 2 (.t 21) (.t 22)),xt 24 19 (.faddr 1 (.t 23)),xt 25 19 (.load false 1 (.t 24)),xt 26 19 (.bin .leq 0 (.t 20) (.t 25)),xo 27 (.pick (.t 19) (.t 26) kf)] (rng 12 15))
(.cond (.t 27) [27] (.seq (.reg [xm 28 1,xo 29 (.call 66 [(true, (.t 28))]),xm 30 29,xt 31 30 (.mov (.t 0)),xt 32 30 (.call 57 [(true, (.t 31))]),xo 33 (.pick (.t 30) (.t 32) kf),xm 4 33] (rng 28 6))
.ret) .skip)))
(.reg [xm 10 5,xo 11 (.bin .add 0 (.t 10) (ki 1)),xm 5 11] [10,11]))))))
(.seq (.reg [xo 4 (.mov kf)] [])
.ret)))
/-- caesura/caesuraref03.Has -/
def fn59 : AFn := ⟨2, 34, c59, [(.t 4)], 0⟩
theorem fn59_body : fn59.body = c59 := rfl
theorem fn59_res : fn59.res = [(.t 4)] := rfl
theorem fn59_keep : fn59.keep = 0 := rfl
def c60 : ACode :=
(.seq (.reg [xo 2 (.mov (ki 0))] [])
(.seq (.reg [xo 3 (.mov (ki 0))] [])
(.seq (.seq (.reg [xm 6 0,xo 7 (.call 56 [(true, (.t 6))])] [6])
(.cond (.t 7) [7] (.seq (.reg [xm 8 0,xo 9 (.len 1 (.t 8)),xo 10 (.mov (ki 0))] [])
(.block 0 (.loop false (.seq (.reg [xo 11 (.bin .lss 0 (.t 10) (.t 9))] [])
(.seq (.cond (.t 11) [11] .skip (.exit 0))
(.seq (.block 1 (.seq (.reg [xo 12 (.iaddr 2 (.t 8) (.t 10)),xo 13 (.load true 2 (.t 12)),xo 5 (.new [(.int .i64 0),(.int .i64 0)]),xn (.store false 2 (.t 5) (.t 13))] [12,13])
(.reg [xm 14 3,xo 15 (.faddr 0 (.t 5)),xo 16 (.load false 1 (.t 15)),xo 17 (.faddr 1 (.t 5)),xo 18 (.load false 1 (.t 17)),xo 19 (.call 100 [(true, (.t 16)),(true, (.t 18))]),xo 20 (.bin .add 0 (.t 14) (.t 19)),xm 3 20] (rng 14 7))))
(.reg [xo 21 (.bin .add 0 (.t 10) (ki 1)),xm 10 21] [21]))))))) .skip))
(.seq (.reg [xm 22 3,xm 2 22] [22])
.ret))))
/-- caesura/sets.Size -/
def fn60 : AFn := ⟨1, 23, c60, [(.t 2)], 0⟩
theorem fn60_body : fn60.body = c60 := rfl
theorem fn60_res : fn60.res = [(.t 2)] := rfl
theorem fn60_keep : fn60.keep = 0 := rfl
def c61 : ACode :=
(.seq (.reg [xo 2 (.mov (ki 0))] [])
(.seq (.reg [xo 3 (.mov (ki 0))] [])
(.seq (.seq (.reg [xo 4 (.mov (ki 0))] [])
(.block 0 (.loop false (.seq (.seq (.reg [xm 5 4,xm 6 0,xo 7 (.len 1 (.t 6)),xo 8 (.bin .lss 0 (.t 5) (.t 7)),xm 9 8,xt 10 9 (.mov (.t 0)),xt 11 9 (.call 57 [(true, (.t 10))]),xo 12 (.pick (.t 9) (.t 11) kf)] (rng 5 7))
(.cond (.t 12) [12] .skip (.exit 0)))
(.seq (.block 1 (.dreg [xm 15 3,xm 16 0,xm 17 4,yo 18 (.iaddr 2 (.t 16) (.t 17)) [1, 2],yo 19 (.faddr 0 (.t 18)) [1, 2, 3],yo 20 (.load false 1 (.t 19)) [1, 2, 3, 4],xm 21 0,xm 22 4,yo 23 (.iaddr 2 (.t 21) (.t 22)) [6, 7],yo 24 (.faddr 1 (.t 23)) [6, 7, 8],yo 25 (.load false 1 (.t 24)) [6, 7, 8, 9],yo 26 (.call 101 [(true, (.t 20)),(true, (.t 25))]) [1, 2, 3, 4, 5, 6, 7, 8, 9, 10],yo 27 (.bin .add 0 (.t 15) (.t 26)) [0, 1, 2, 3, 4, 5, 6, 7, 8, 9, 10, 11],ym 3 27 (rng 0 13)] (rng 15 13)))
(.reg [xm 13 4,xo 14 (.bin .add 0 (.t 13) (ki 1)),xm 4 14] [13,14]))))))
(.seq (.reg [xm 28 3,xm 2 28] [28])
.ret))))
/-- caesura/caesuraref03.Size -/
def fn61 : AFn := ⟨1, 29, c61, [(.t 2)], 0⟩
theorem fn61_body : fn61.body = c61 := rfl
theorem fn61_res : fn61.res = [(.t 2)] := rfl
theorem fn61_keep : fn61.keep = 0 := rfl
def c62 : ACode :=
(.seq (.reg [xo 4 (.mov kf)] [])
(.seq (.seq (.reg [xm 7 0,xo 8 (.len 1 (.t 7)),xm 9 1,xo 10 (.len 1 (.t 9)),xo 11 (.bin .neq 0 (.t 8) (.t 10))] (rng 7 4))
(.cond (.t 11) [11] (.seq (.reg [xo 4 (.mov kf)] [])
.ret) .skip))
(.seq (.seq (.reg [xm 12 0,xo 13 (.len 1 (.t 12)),xo 14 (.mov (ki 0))] [])
(.block 0 (.loop false (.seq (.reg [xo 15 (.bin .lss 0 (.t 14) (.t 13))] [])
(.seq (.cond (.t 15) [15] .skip (.exit 0))
(.seq (.block 1 (.seq (.reg [xm 16 14,xo 17 (.iaddr 2 (.t 12) (.t 14)),xo 18 (.load true 2 (.t 17)),xo 6 (.new [(.int .i64 0),(.int .i64 0)]),xm 5 16,xn (.store false 2 (.t 6) (.t 18))] [16,17,18])
(.seq (.dreg [xo 19 (.load true 2 (.t 6)),xm 20 1,xm 21 5,yo 22 (.iaddr 2 (.t 20) (.t 21)) [1, 2],yo 23 (.load true 2 (.t 22)) [1, 2, 3],yo 24 (.bins .neq [0,0] (.t 19) (.t 23)) (rng 0 5)] (rng 19 5))
(.cond (.t 24) [24] (.seq (.reg [xo 4 (.mov kf)] [])
.ret) .skip))))
(.reg [xo 25 (.bin .add 0 (.t 14) (ki 1)),xm 14 25] [25])))))))
(.seq (.reg [xo 4 (.mov kt)] [])
.ret))))
/-- caesura/sets.Same -/
def fn62 : AFn := ⟨2, 26, c62, [(.t 4)], 0⟩
theorem fn62_body : fn62.body = c62 := rfl
theorem fn62_res : fn62.res = [(.t 4)] := rfl
theorem fn62_keep : fn62.keep = 0 := rfl
def c63 : ACode :=
(.seq (.reg [xo 4 (.mov kf)] [])
(.seq (.seq (.reg [xm 6 0,xo 7 (.len 1 (.t 6)),xm 8 1,xo 9 (.len 1 (.t 8)),xo 10 (.bin .neq 0 (.t 7) (.t 9))] (rng 6 4))
(.cond (.t 10) [10] (.seq (.reg [xo 4 (.mov kf)] [])
.ret) .skip))
(.seq (.seq (.reg [xo 5 (.mov (ki 0))] [])
(.block 0 (.loop false (.seq (.seq (.reg [xm 11 5,xm 12 0,xo 13 (.len 1 (.t 12)),xo 14 (.bin .lss 0 (.t 11) (.t 13))] [11,12,13])
(.cond (.t 14) [14] .skip (.exit 0)))
(.seq (.block 1 (.seq (.dreg [xm 17 0,xm 18 5,yo 19 (.iaddr 2 (.t 17) (.t 18)) [0, 1],yo 20 (.load true 2 (.t 19)) [0, 1, 2],xm 21 1,xm 22 5,yo 23 (.iaddr 2 (.t 21) (.t 22)) [4, 5],yo 24 (.load true 2 (.t 23)) [4, 5, 6],yo 25 (.bins .neq [0,0] (.t 20) (.t 24)) (rng 0 8)] (rng 17 8))
(.cond (.t 25) [25] (.seq (.reg [xo 4 (.mov kf)] [])
.ret) .skip)))
(.reg [xm 15 5,xo 16 (.bin .add 0 (.t 15) (ki 1)),xm 5 16] [15,16]))))))
(.seq (.reg [xo 4 (.mov kt)] [])
.ret))))
/-- caesura/caesurakeep.Set -/
def fn63 : AFn := ⟨2, 26, c63, [(.t 4)], 0⟩
theorem fn63_body : fn63.body = c63 := rfl
theorem fn63_res : fn63.res = [(.t 4)] := rfl
theorem fn63_keep : fn63.keep = 0 := rfl
def c64 : ACode :=
(.seq (.reg [xo 4 (.mov kf)] [])
(.seq (.reg [xm 5 0,xm 6 1,xo 7 (.call 102 [(true, (.t 5)),(true, (.t 6)),(false, (.k (.func 87 [])))]),xo 8 (.bin .lss 0 (.t 7) (ki 0)),xm 4 8] (rng 5 4))
.ret))
/-- caesura/sets.Less -/
def fn64 : AFn := ⟨2, 9, c64, [(.t 4)], 0⟩
theorem fn64_body : fn64.body = c64 := rfl
theorem fn64_res : fn64.res = [(.t 4)] := rfl
theorem fn64_keep : fn64.keep = 0 := rfl
def c65 : ACode :=
(.seq (.reg [xo 4 (.mov kf)] [])
(.seq (.seq (.reg [xo 5 (.mov (ki 0))] [])
(.block 0 (.loop false (.seq (.seq (.reg [xm 6 5,xm 7 0,xo 8 (.len 1 (.t 7)),xo 9 (.bin .lss 0 (.t 6) (.t 8)),xm 10 9,xt 11 10 (.mov (.t 5)),xt 12 10 (.mov (.t 1)),xt 13 10 (.len 1 (.t 12)),xt 14 10 (.bin .lss 0 (.t 11) (.t 13)),xo 15 (.pick (.t 10) (.t 14) kf)] (rng 6 9))
(.cond (.t 15) [15] .skip (.exit 0)))
(.seq (.block 1 (.seq (.dreg [xm 18 0,xm 19 5,yo 20 (.iaddr 2 (.t 18) (.t 19)) [0, 1],yo 21 (.load true 2 (.t 20)) [0, 1, 2],xm 22 1,xm 23 5,yo 24 (.iaddr 2 (.t 22) (.t 23)) [4, 5],yo 25 (.load true 2 (.t 24)) [4, 5, 6],yo 26 (.bins .neq [0,0] (.t 21) (.t 25)) (rng 0 8)] (rng 18 8))
(.cond (.t 26) [26] (.seq (.dreg [xm 27 0,xm 28 5,yo 29 (.iaddr 2 (.t 27) (.t 28)) [0, 1],yo 30 (.faddr 0 (.t 29)) [0, 1, 2],yo 31 (.load false 1 (.t 30)) [0, 1, 2, 3],xm 32 1,xm 33 5,yo 34 (.iaddr 2 (.t 32) (.t 33)) [5, 6],yo 35 (.faddr 0 (.t 34)) [5, 6, 7],yo 36 (.load false 1 (.t 35)) [5, 6, 7, 8],yo 37 (.bin .lss 0 (.t 31) (.t 36)) [0, 1, 2, 3, 4, 5, 6, 7, 8, 9],ym 38 37 [0, 1, 2, 3, 4, 5, 6, 7, 8, 9, 10],yf 39 38 (.mov (.t 0)) [0, 1, 2, 3, 4, 5, 6, 7, 8, 9, 10, 11],yf 40 38 (.mov (.t 5)) [0, 1, 2, 3, 4, 5, 6, 7, 8, 9, 10, 11],yf 41 38 (.iaddr 2 (.t 39) (.t 40)) [0, 1, 2, 3, 4, 5, 6, 7, 8, 9, 10, 11, 12, 13],yf 42 38 (.faddr 0 (.t 41)) [0, 1, 2, 3, 4, 5, 6, 7, 8, 9, 10, 11, 12, 13, 14],yf 43 38 (.load false 1 (.t 42)) [0, 1, 2, 3, 4, 5, 6, 7, 8, 9, 10, 11, 12, 13, 14, 15],yf 44 38 (.mov (.t 1)) [0, 1, 2, 3, 4, 5, 6, 7, 8, 9, 10, 11],yf 45 38 (.mov (.t 5)) [0, 1, 2, 3, 4, 5, 6, 7, 8, 9, 10, 11],yf 46 38 (.iaddr 2 (.t 44) (.t 45)) [0, 1, 2, 3, 4, 5, 6, 7, 8, 9, 10, 11, 17, 18],yf 47 38 (.faddr 0 (.t 46)) [0, 1, 2, 3, 4, 5, 6, 7, 8, 9, 10, 11, 17, 18, 19],yf 48 38 (.load false 1 (.t 47)) [0, 1, 2, 3, 4, 5, 6, 7, 8, 9, 10, 11, 17, 18, 19, 20],yf 49 38 (.bin .eql 0 (.t 43) (.t 48)) [0, 1, 2, 3, 4, 5, 6, 7, 8, 9, 10, 11, 12, 13, 14, 15, 16, 17, 18, 19, 20, 21],yf 50 38 (.mov (.t 49)) [0, 1, 2, 3, 4, 5, 6, 7, 8, 9, 10, 11, 12, 13, 14, 15, 16, 17, 18, 19, 20, 21, 22],yt 51 50 (.mov (.t 0)) [0, 1, 2, 3, 4, 5, 6, 7, 8, 9, 10, 11, 12, 13, 14, 15, 16, 17, 18, 19, 20, 21, 22, 23],yt 52 50 (.mov (.t 5)) [0, 1, 2, 3, 4, 5, 6, 7, 8, 9, 10, 11, 12, 13, 14, 15, 16, 17, 18, 19, 20, 21, 22, 23],yt 53 50 (.iaddr 2 (.t 51) (.t 52)) [0, 1, 2, 3, 4, 5, 6, 7, 8, 9, 10, 11, 12, 13, 14, 15, 16, 17, 18, 19, 20, 21, 22, 23, 24, 25],yt 54 50 (.faddr 1 (.t 53)) [0, 1, 2, 3, 4, 5, 6, 7, 8, 9, 10, 11, 12, 13, 14, 15, 16, 17, 18, 19, 20, 21, 22, 23, 24, 25, 26],yt 55 50 (.load false 1 (.t 54)) [0, 1, 2, 3, 4, 5, 6, 7, 8, 9, 10, 11, 12, 13, 14, 15, 16, 17, 18, 19, 20, 21, 22, 23, 24, 25, 26, 27],yt 56 50 (.mov (.t 1)) [0, 1, 2, 3, 4, 5, 6, 7, 8, 9, 10, 11, 12, 13, 14, 15, 16, 17, 18, 19, 20, 21, 22, 23],yt 57 50 (.mov (.t 5)) [0, 1, 2, 3, 4, 5, 6, 7, 8, 9, 10, 11, 12, 13, 14, 15, 16, 17, 18, 19, 20, 21, 22, 23],yt 58 50 (.iaddr 2 (.t 56) (.t 57)) [0, 1, 2, 3, 4, 5, 6, 7, 8, 9, 10, 11, 12, 13, 14, 15, 16, 17, 18, 19, 20, 21, 22, 23, 29, 30],yt 59 50 (.faddr 1 (.t 58)) [0, 1, 2, 3, 4, 5, 6, 7, 8, 9, 10, 11, 12, 13, 14, 15, 16, 17, 18, 19, 20, 21, 22, 23, 29, 30, 31],yt 60 50 (.load false 1 (.t 59)) [0, 1, 2, 3, 4, 5, 6, 7, 8, 9, 10, 11, 12, 13, 14, 15, 16, 17, 18, 19, 20, 21, 22, 23, 29, 30, 31, 32],yt 61 50 (.bin .lss 0 (.t 55) (.t 60)) [0, 1, 2, 3, 4, 5, 6, 7, 8, 9, 10, 11, 12, 13, 14, 15, 16, 17, 18, 19, 20, 21, 22, 23, 24, 25, 26, 27, 28, 29, 30, 31, 32, 33],yf 62 38 (.pick (.t 50) (.t 61) kf) [0, 1, 2, 3, 4, 5, 6, 7, 8, 9, 10, 11, 12, 13, 14, 15, 16, 17, 18, 19, 20, 21, 22, 23, 24, 25, 26, 27, 28, 29, 30, 31, 32, 33, 34],yo 63 (.pick (.t 38) kt (.t 62)) [0, 1, 2, 3, 4, 5, 6, 7, 8, 9, 10, 11, 12, 13, 14, 15, 16, 17, 18, 19, 20, 21, 22, 23, 24, 25, 26, 27, 28, 29, 30, 31, 32, 33, 34, 35],ym 4 63 (rng 0 37)] (rng 27 37))
.ret) .skip)))
(.reg [xm 16 5,xo 17 (.bin .add 0 (.t 16) (ki 1)),xm 5 17] [16,17]))))))
(.seq (.reg [xm 64 0,xo 65 (.len 1 (.t 64)),xm 66 1,xo 67 (.len 1 (.t 66)),xo 68 (.bin .lss 0 (.t 65) (.t 67)),xm 4 68] (rng 64 5))
.ret)))
/-- caesura/caesuraref03.Less -/
def fn65 : AFn := ⟨2, 69, c65, [(.t 4)], 0⟩
theorem fn65_body : fn65.body = c65 := rfl
theorem fn65_res : fn65.res = [(.t 4)] := rfl
theorem fn65_keep : fn65.keep = 0 := rfl
def c66 : ACode :=
(.seq (.reg [xo 2 (.mov kf)] [])
(.seq (.reg [xm 3 0,xo 4 (.bin .geq 0 (.t 3) (ki 0)),xm 5 4,xt 6 5 (.mov (.t 0)),xt 7 5 (.bin .lss 0 (.t 6) (ki 55296)),xo 8 (.pick (.t 5) (.t 7) kf),xm 9 8,xf 10 9 (.mov (.t 0)),xf 11 9 (.bin .geq 0 (.t 10) (ki 57344)),xf 12 9 (.mov (.t 11)),xt 13 12 (.mov (.t 0)),xt 14 12 (.bin .leq 0 (.t 13) (ki 1114111)),xf 15 9 (.pick (.t 12) (.t 14) kf),xo 16 (.pick (.t 9) kt (.t 15)),xm 2 16] (rng 3 14))
.ret))
/-- caesura/caesuraref01.Is -/
def fn66 : AFn := ⟨1, 17, c66, [(.t 2)], 0⟩
theorem fn66_body : fn66.body = c66 := rfl
theorem fn66_res : fn66.res = [(.t 2)] := rfl
theorem fn66_keep : fn66.keep = 0 := rfl
def c86 : ACode :=
(.seq (.reg [xo 1 (.box (.t 0)),xo 2 (.mov (.k .nilf))] [])
(.seq (.reg [xo 3 (.mkf 115 [(.t 1)]),xm 2 3] [3])
.ret))
/-- slices.Values[[]caesura/api.Range,caesura/api.Range] -/
def fn86 : AFn := ⟨1, 4, c86, [(.t 2)], 2⟩
theorem fn86_body : fn86.body = c86 := rfl
theorem fn86_res : fn86.res = [(.t 2)] := rfl
theorem fn86_keep : fn86.keep = 2 := rfl
def c88 : ACode :=
(.seq (.reg [xo 1 (.box (.t 0)),xo 2 (.mov kf)] [])
(.seq (.reg [xo 3 (.faddr 0 (.t 1)),xo 4 (.load false 1 (.t 3)),xo 5 (.call 97 [(true, (.t 4))]),xm 6 5,xt 7 6 (.faddr 1 (.t 1)),xt 8 6 (.load false 1 (.t 7)),xt 9 6 (.call 97 [(true, (.t 8))]),xo 10 (.pick (.t 6) (.t 9) kf),xm 11 10,xt 12 11 (.faddr 0 (.t 1)),xt 13 11 (.load false 1 (.t 12)),xt 14 11 (.faddr 1 (.t 1)),xt 15 11 (.load false 1 (.t 14)),xt 16 11 (.bin .leq 0 (.t 13) (.t 15)),xo 17 (.pick (.t 11) (.t 16) kf),xm 2 17] (rng 3 15))
.ret))
/-- caesura/sets.whole -/
def fn88 : AFn := ⟨1, 18, c88, [(.t 2)], 0⟩
theorem fn88_body : fn88.body = c88 := rfl
theorem fn88_res : fn88.res = [(.t 2)] := rfl
theorem fn88_keep : fn88.keep = 0 := rfl
def c89 : ACode :=
(.seq (.reg [xo 2 (.box (.t 0)),xo 3 (.box (.t 1)),xo 4 (.mov kf)] [])
(.seq (.reg [xo 8 (.faddr 1 (.t 2)),xo 9 (.load false 1 (.t 8)),xo 10 (.call 92 [(true, (.t 9))]),xm 7 10,xo 11 (.ext (.t 7) 0),xo 12 (.ext (.t 7) 1),xm 5 11,xm 6 12] (rng 7 6))
(.seq (.reg [xm 13 6,xm 14 13,xt 15 14 (.faddr 0 (.t 3)),xt 16 14 (.load false 1 (.t 15)),xt 17 14 (.mov (.t 5)),xt 18 14 (.bin .gtr 0 (.t 16) (.t 17)),xo 19 (.pick (.t 14) (.t 18) kf),xm 4 19] (rng 13 7))
.ret)))
/-- caesura/sets.apart -/
def fn89 : AFn := ⟨2, 20, c89, [(.t 4)], 0⟩
theorem fn89_body : fn89.body = c89 := rfl
theorem fn89_res : fn89.res = [(.t 4)] := rfl
theorem fn89_keep : fn89.keep = 0 := rfl
def c90 : ACode :=
(.seq (.reg [xo 2 (.anil 70 2)] [])
(.seq (.reg [xo 3 (.mov (ki 0))] [])
(.seq (.seq (.reg [xm 9 0,xo 10 (.len 1 (.t 9)),xo 11 (.mov (ki 0))] [])
(.block 0 (.loop false (.seq (.reg [xo 12 (.bin .lss 0 (.t 11) (.t 10))] [])
(.seq (.cond (.t 12) [12] .skip (.exit 0))
(.seq (.block 1 (.seq (.reg [xo 13 (.iaddr 1 (.t 9) (.t 11)),xo 14 (.load false 1 (.t 13)),xm 5 14] [13,14])
(.seq (.reg [xm 15 3,xm 16 5,xo 17 (.len 1 (.t 16)),xo 18 (.bin .add 0 (.t 15) (.t 17)),xm 3 18] (rng 15 4))
(.seq (.reg [xm 19 3,xo 20 (.bin .lss 0 (.t 19) (ki 0))] [19])
(.cond (.t 20) [20] .stuck .skip)))))
(.reg [xo 22 (.bin .add 0 (.t 11) (ki 1)),xm 11 22] [22])))))))
(.seq (.reg [xm 23 3,xo 24 (.call 118 [(true, (.k .nils)),(true, (.t 23))]),xm 6 24] [23,24])
(.seq (.seq (.reg [xm 25 0,xo 26 (.len 1 (.t 25)),xo 27 (.mov (ki 0))] [])
(.block 2 (.loop false (.seq (.reg [xo 28 (.bin .lss 0 (.t 27) (.t 26))] [])
(.seq (.cond (.t 28) [28] .skip (.exit 2))
(.seq (.block 3 (.seq (.reg [xo 29 (.iaddr 1 (.t 25) (.t 27)),xo 30 (.load false 1 (.t 29)),xm 8 30] [29,30])
(.reg [xm 31 6,xm 32 8,xo 33 (.app 70 2 16 (.t 31) (.t 32)),xm 6 33] [31,32,33])))
(.reg [xo 34 (.bin .add 0 (.t 27) (ki 1)),xm 27 34] [34])))))))
(.seq (.reg [xm 35 6,xm 2 35] [35])
.ret))))))
/-- slices.Concat[caesura/api.Set,caesura/api.Range] -/
def fn90 : AFn := ⟨1, 36, c90, [(.t 2)], 0⟩
theorem fn90_body : fn90.body = c90 := rfl
theorem fn90_res : fn90.res = [(.t 2)] := rfl
theorem fn90_keep : fn90.keep = 0 := rfl
def c91 : ACode :=
(.seq (.reg [xo 2 (.mov (ki 0)),xo 3 (.mov kf)] [])
(.seq (.block 0 (.seq (.reg [xm 5 0,xo 6 (.bin .leq 0 (.t 5) (ki 0)),xm 4 6] [5,6])
(.cond (.t 4) [4] (.seq (.reg [xo 2 (.mov (ki 0)),xo 3 (.mov kf)] [])
.ret) (.seq (.reg [xm 8 0,xo 9 (.bin .gtr 0 (.t 8) (ki 1114111)),xm 7 9] [8,9])
(.cond (.t 7) [7] (.seq (.reg [xo 2 (.mov (ki 1114111)),xo 3 (.mov kt)] [])
.ret) (.seq (.reg [xm 11 0,xo 12 (.bin .gtr 0 (.t 11) (ki 55295)),xm 13 12,xt 14 13 (.mov (.t 0)),xt 15 13 (.bin .leq 0 (.t 14) (ki 57344)),xo 16 (.pick (.t 13) (.t 15) kf),xm 10 16] (rng 11 6))
(.cond (.t 10) [10] (.seq (.reg [xo 2 (.mov (ki 55295)),xo 3 (.mov kt)] [])
.ret) .skip)))))))
(.seq (.reg [xm 17 0,xo 18 (.bin .sub 0 (.t 17) (ki 1)),xm 2 18,xo 3 (.mov kt)] [17,18])
.ret)))
/-- caesura/scalar.Prev -/
def fn91 : AFn := ⟨1, 19, c91, [(.t 2),(.t 3)], 0⟩
theorem fn91_body : fn91.body = c91 := rfl
theorem fn91_res : fn91.res = [(.t 2), (.t 3)] := rfl
theorem fn91_keep : fn91.keep = 0 := rfl
def c92 : ACode :=
(.seq (.reg [xo 2 (.mov (ki 0)),xo 3 (.mov kf)] [])
(.seq (.block 0 (.seq (.reg [xm 5 0,xo 6 (.bin .lss 0 (.t 5) (ki 0)),xm 4 6] [5,6])
(.cond (.t 4) [4] (.seq (.reg [xo 2 (.mov (ki 0)),xo 3 (.mov kt)] [])
.ret) (.seq (.reg [xm 8 0,xo 9 (.bin .geq 0 (.t 8) (ki 1114111)),xm 7 9] [8,9])
(.cond (.t 7) [7] (.seq (.reg [xo 2 (.mov (ki 0)),xo 3 (.mov kf)] [])
.ret) (.seq (.reg [xm 11 0,xo 12 (.bin .geq 0 (.t 11) (ki 55295)),xm 13 12,xt 14 13 (.mov (.t 0)),xt 15 13 (.bin .lss 0 (.t 14) (ki 57344)),xo 16 (.pick (.t 13) (.t 15) kf),xm 10 16] (rng 11 6))
(.cond (.t 10) [10] (.seq (.reg [xo 2 (.mov (ki 57344)),xo 3 (.mov kt)] [])
.ret) .skip)))))))
(.seq (.reg [xm 17 0,xo 18 (.bin .add 0 (.t 17) (ki 1)),xm 2 18,xo 3 (.mov kt)] [17,18])
.ret)))
/-- caesura/scalar.Next -/
def fn92 : AFn := ⟨1, 19, c92, [(.t 2),(.t 3)], 0⟩
theorem fn92_body : fn92.body = c92 := rfl
theorem fn92_res : fn92.res = [(.t 2), (.t 3)] := rfl
theorem fn92_keep : fn92.keep = 0 := rfl
def c93 : ACode :=
(.seq (.reg [xo 2 (.anil 3 1)] [])
(.seq (.reg [xo 6 (.mkl 3 1 [(.int .i64 0)] 1 [(0, (ki 0))] false),xm 3 6] [6])
(.seq (.seq (.reg [xo 4 (.mov (ki 0))] [])
(.block 0 (.loop false (.seq (.seq (.reg [xm 7 4,xm 8 0,xo 9 (.len 1 (.t 8)),xo 10 (.bin .lss 0 (.t 7) (.t 9))] [7,8,9])
(.cond (.t 10) [10] .skip (.exit 0)))
(.seq (.block 1 (.seq (.reg [xm 13 3,xm 14 0,xm 15 4,xo 16 (.iaddr 2 (.t 14) (.t 15)),xo 17 (.faddr 0 (.t 16)),xo 18 (.load false 1 (.t 17)),xo 19 (.call 119 [(true, (.t 13)),(true, (.t 18))]),xm 3 19] (rng 13 7))
(.seq (.reg [xm 20 0,xm 21 4,xo 22 (.iaddr 2 (.t 20) (.t 21)),xo 23 (.faddr 1 (.t 22)),xo 24 (.load false 1 (.t 23)),xo 25 (.call 96 [(true, (.t 24))]),xo 5 (.new [(.int .i64 0),(.bool false)]),xn (.store false 2 (.t 5) (.t 25))] (rng 20 6))
(.seq (.reg [xo 26 (.faddr 1 (.t 5)),xo 27 (.load false 1 (.t 26))] [26])
(.cond (.t 27) [27] (.reg [xm 28 3,xo 29 (.faddr 0 (.t 5)),xo 30 (.load false 1 (.t 29)),xo 31 (.call 119 [(true, (.t 28)),(true, (.t 30))]),xm 3 31] (rng 28 4)) .skip)))))
(.reg [xm 11 4,xo 12 (.bin .add 0 (.t 11) (ki 1)),xm 4 12] [11,12]))))))
(.seq (.reg [xm 32 3,xm 2 32] [32])
.ret))))
/-- caesura/caesuraref03.starts -/
def fn93 : AFn := ⟨1, 33, c93, [(.t 2)], 0⟩
theorem fn93_body : fn93.body = c93 := rfl
theorem fn93_res : fn93.res = [(.t 2)] := rfl
theorem fn93_keep : fn93.keep = 0 := rfl
def c94 : ACode :=
(.seq (.reg [xo 4 (.anil 70 2)] [])
(.seq (.reg [xo 5 (.anil 70 2)] [])
(.seq (.seq (.reg [xo 6 (.mov (ki 0))] [])
(.block 0 (.loop false (.seq (.seq (.reg [xm 9 6,xm 10 0,xo 11 (.len 1 (.t 10)),xo 12 (.bin .lss 0 (.t 9) (.t 11))] [9,10,11])
(.cond (.t 12) [12] .skip (.exit 0)))
(.seq (.block 1 (.seq (.seq (.reg [xm 15 1,xm 16 6,xo 17 (.iaddr 1 (.t 15) (.t 16)),xo 18 (.load false 1 (.t 17)),xo 19 (.un .not (.t 18))] (rng 15 4))
(.cond (.t 19) [19] (.exit 1) .skip))
(.seq (.reg [xo 7 (.mov (ki 1114111))] [])
(.seq (.seq (.reg [xm 20 6,xo 21 (.bin .add 0 (.t 20) (ki 1)),xm 22 0,xo 23 (.len 1 (.t 22)),xo 24 (.bin .lss 0 (.t 21) (.t 23))] (rng 20 4))
(.cond (.t 24) [24] (.reg [xm 25 0,xm 26 6,xo 27 (.bin .add 0 (.t 26) (ki 1)),xo 28 (.iaddr 1 (.t 25) (.t 27)),xo 29 (.load false 1 (.t 28)),xo 30 (.call 120 [(true, (.t 29))]),xo 31 (.fld false 0 1 (.t 30)),xm 7 31] (rng 25 7)) .skip))
(.seq (.reg [xm 32 5,xo 33 (.len 1 (.t 32)),xo 34 (.bin .sub 0 (.t 33) (ki 1)),xm 8 34] [32,33,34])
(.seq (.dreg [xm 35 8,yo 36 (.bin .geq 0 (.t 35) (ki 0)) [0],ym 37 36 [0, 1],yt 38 37 (.mov (.t 5)) [0, 1, 2],yt 39 37 (.mov (.t 8)) [0, 1, 2],yt 40 37 (.iaddr 2 (.t 38) (.t 39)) [0, 1, 2, 3, 4],yt 41 37 (.faddr 1 (.t 40)) [0, 1, 2, 3, 4, 5],yt 42 37 (.load false 1 (.t 41)) [0, 1, 2, 3, 4, 5, 6],yt 43 37 (.call 96 [(true, (.t 42))]) [0, 1, 2, 3, 4, 5, 6, 7],yt 44 37 (.fld false 0 1 (.t 43)) [0, 1, 2, 3, 4, 5, 6, 7, 8],yt 45 37 (.mov (.t 0)) [0, 1, 2],yt 46 37 (.mov (.t 6)) [0, 1, 2],yt 47 37 (.iaddr 1 (.t 45) (.t 46)) [0, 1, 2, 10, 11],yt 48 37 (.load false 1 (.t 47)) [0, 1, 2, 10, 11, 12],yt 49 37 (.bin .eql 0 (.t 44) (.t 48)) [0, 1, 2, 3, 4, 5, 6, 7, 8, 9, 10, 11, 12, 13],yo 50 (.pick (.t 37) (.t 49) kf) (rng 0 15)] (rng 35 15))
(.cond (.t 50) [50] (.reg [xm 51 5,xm 52 8,xm 53 7,xo 54 (.iaddr 2 (.t 51) (.t 52)),xo 55 (.faddr 1 (.t 54)),xn (.store false 1 (.t 55) (.t 53))] (rng 51 5)) (.reg [xm 56 5,xm 57 0,xm 58 6,xo 59 (.iaddr 1 (.t 57) (.t 58)),xo 60 (.load false 1 (.t 59)),xm 61 7,xo 62 (.agg [(.int .i64 0),(.int .i64 0)] [(0, 1, (.t 60)),(1, 1, (.t 61))]),xo 63 (.mkl 70 2 [(.int .i64 0),(.int .i64 0)] 1 [(0, (.t 62))] false),xo 64 (.app 70 2 16 (.t 56) (.t 63)),xm 5 64] (rng 56 9)))))))))
(.reg [xm 13 6,xo 14 (.bin .add 0 (.t 13) (ki 1)),xm 6 14] [13,14]))))))
(.seq (.reg [xm 65 5,xm 4 65] [65])
.ret))))
/-- caesura/caesuraref03.Build -/
def fn94 : AFn := ⟨2, 66, c94, [(.t 4)], 0⟩
theorem fn94_body : fn94.body = c94 := rfl
theorem fn94_res : fn94.res = [(.t 4)] := rfl
theorem fn94_keep : fn94.keep = 0 := rfl
def c95 : ACode :=
(.seq (.reg [xo 6 (.new [(.list 2 []),(.bool false)])] [])
(.seq (.seq (.reg [xm 12 0,xo 13 (.call 57 [(true, (.t 12))]),xo 14 (.un .not (.t 13)),xm 15 14,xf 16 15 (.mov (.t 1)),xf 17 15 (.call 57 [(true, (.t 16))]),xf 18 15 (.un .not (.t 17)),xo 19 (.pick (.t 15) kt (.t 18))] (rng 12 7))
(.cond (.t 19) [19] (.seq (.reg [xo 20 (.agg [(.list 2 []),(.bool false)] []),xn (.store false 2 (.t 6) (.t 20))] [20])
.ret) .skip))
(.seq (.reg [xm 21 0,xm 22 1,xo 23 (.mkl 25 1 [(.list 2 [])] 2 [(0, (.t 21)),(1, (.t 22))] false),xo 24 (.call 121 [(true, (.t 23))]),xm 7 24] (rng 21 4))
(.seq (.reg [xm 25 7,xo 26 (.len 1 (.t 25)),xo 27 (.mks 4 1 1 [(.bool false)] (.t 26)),xm 8 27] [25,26,27])
(.seq (.seq (.reg [xo 9 (.mov (ki 0))] [])
(.block 0 (.loop false (.seq (.seq (.reg [xm 28 9,xm 29 7,xo 30 (.len 1 (.t 29)),xo 31 (.bin .lss 0 (.t 28) (.t 30))] [28,29,30])
(.cond (.t 31) [31] .skip (.exit 0)))
(.seq (.block 1 (.seq (.dreg [xm 34 0,xm 35 7,xm 36 9,yo 37 (.iaddr 1 (.t 35) (.t 36)) [1, 2],yo 38 (.load false 1 (.t 37)) [1, 2, 3],yo 39 (.call 59 [(true, (.t 34)),(true, (.t 38))]) [0, 1, 2, 3, 4],xm 40 1,xm 41 7,xm 42 9,yo 43 (.iaddr 1 (.t 41) (.t 42)) [7, 8],yo 44 (.load false 1 (.t 43)) [7, 8, 9],yo 45 (.call 59 [(true, (.t 40)),(true, (.t 44))]) [0, 1, 2, 3, 4, 5, 6, 7, 8, 9, 10],ym 10 39 [0, 1, 2, 3, 4, 5, 6, 7, 8, 9, 10, 11],ym 11 45 (rng 0 13)] (rng 34 12))
(.reg [xm 46 8,xm 47 9,xm 48 10,xm 49 48,xt 50 49 (.mov (.t 11)),xo 51 (.pick (.t 49) (.t 50) kf),xm 52 51,xf 53 52 (.mov (.t 2)),xf 54 52 (.un .not (.t 53)),xf 55 52 (.mov (.t 54)),xt 56 55 (.mov (.t 10)),xt 57 55 (.mov (.t 56)),xf 58 57 (.mov (.t 11)),xt 59 55 (.pick (.t 57) kt (.t 58)),xf 60 52 (.pick (.t 55) (.t 59) kf),xo 61 (.pick (.t 52) kt (.t 60)),xo 62 (.iaddr 1 (.t 46) (.t 47)),xn (.store false 1 (.t 62) (.t 61))] (rng 46 17))))
(.reg [xm 32 9,xo 33 (.bin .add 0 (.t 32) (ki 1)),xm 9 33] [32,33]))))))
(.seq (.reg [xm 63 7,xm 64 8,xo 65 (.call 94 [(true, (.t 63)),(true, (.t 64))]),xo 66 (.agg [(.list 2 []),(.bool false)] [(0, 1, (.t 65)),(1, 1, kt)]),xn (.store false 2 (.t 6) (.t 66))] (rng 63 4))
.ret))))))
/-- caesura/caesuraref03.two -/
def fn95 : AFn := ⟨3, 67, c95, [(.c 6 true 2)], 0⟩
theorem fn95_body : fn95.body = c95 := rfl
theorem fn95_res : fn95.res = [(.c 6 true 2)] := rfl
theorem fn95_keep : fn95.keep = 0 := rfl
def c96 : ACode :=
(.seq (.reg [xo 2 (.new [(.int .i64 0),(.bool false)])] [])
(.seq (.block 0 (.seq (.reg [xm 4 0,xo 5 (.bin .geq 0 (.t 4) (ki 1114111)),xm 3 5] [4,5])
(.cond (.t 3) [3] (.seq (.reg [xo 6 (.agg [(.int .i64 0),(.bool false)] []),xn (.store false 2 (.t 2) (.t 6))] [6])
.ret) (.seq (.reg [xm 8 0,xo 9 (.bin .lss 0 (.t 8) (ki 0)),xm 7 9] [8,9])
(.cond (.t 7) [7] (.seq (.reg [xo 10 (.agg [(.int .i64 0),(.bool false)] [(0, 1, (ki 0)),(1, 1, kt)]),xn (.store false 2 (.t 2) (.t 10))] [10])
.ret) (.seq (.reg [xm 12 0,xo 13 (.bin .geq 0 (.t 12) (ki 55295)),xm 14 13,xt 15 14 (.mov (.t 0)),xt 16 14 (.bin .lss 0 (.t 15) (ki 57344)),xo 17 (.pick (.t 14) (.t 16) kf),xm 11 17] (rng 12 6))
(.cond (.t 11) [11] (.seq (.reg [xo 18 (.agg [(.int .i64 0),(.bool false)] [(0, 1, (ki 57344)),(1, 1, kt)]),xn (.store false 2 (.t 2) (.t 18))] [18])
.ret) .skip)))))))
(.seq (.reg [xm 19 0,xo 20 (.bin .add 0 (.t 19) (ki 1)),xo 21 (.agg [(.int .i64 0),(.bool false)] [(0, 1, (.t 20)),(1, 1, kt)]),xn (.store false 2 (.t 2) (.t 21))] [19,20,21])
.ret)))
/-- caesura/caesuraref01.Next -/
def fn96 : AFn := ⟨1, 22, c96, [(.c 2 true 2)], 0⟩
theorem fn96_body : fn96.body = c96 := rfl
theorem fn96_res : fn96.res = [(.c 2 true 2)] := rfl
theorem fn96_keep : fn96.keep = 0 := rfl
def c97 : ACode :=
(.seq (.reg [xo 2 (.mov kf)] [])
(.seq (.reg [xm 6 0,xo 7 (.call 122 [(true, (.t 6))]),xm 5 7,xo 8 (.ext (.t 5) 0),xo 9 (.ext (.t 5) 1),xm 3 8,xm 4 9] [3,5,6,7,8,9])
(.seq (.reg [xm 10 4,xm 2 10] [10])
.ret)))
/-- caesura/scalar.Is -/
def fn97 : AFn := ⟨1, 11, c97, [(.t 2)], 0⟩
theorem fn97_body : fn97.body = c97 := rfl
theorem fn97_res : fn97.res = [(.t 2)] := rfl
theorem fn97_keep : fn97.keep = 0 := rfl
def c98 : ACode :=
(.seq (.reg [xo 4 (.mov kf)] [])
(.seq (.reg [xm 5 0,xm 6 1,xo 7 (.call 123 [(true, (.t 5)),(false, (.t 6))]),xo 8 (.bin .geq 0 (.t 7) (ki 0)),xm 4 8] (rng 5 4))
.ret))
/-- slices.ContainsFunc[caesura/api.Set,caesura/api.Range] -/
def fn98 : AFn := ⟨2, 9, c98, [(.t 4)], 0⟩
theorem fn98_body : fn98.body = c98 := rfl
theorem fn98_res : fn98.res = [(.t 4)] := rfl
theorem fn98_keep : fn98.keep = 0 := rfl
def c99 : ACode :=
(.seq (.reg [xo 2 (.box (.t 0)),xo 3 (.mov kf)] [])
(.seq (.reg [xo 4 (.faddr 0 (.t 2)),xo 5 (.load false 1 (.t 4)),xo 6 (.load false 1 (.t 1)),xo 7 (.bin .leq 0 (.t 5) (.t 6)),xm 8 7,xt 9 8 (.load false 1 (.t 1)),xt 10 8 (.faddr 1 (.t 2)),xt 11 8 (.load false 1 (.t 10)),xt 12 8 (.bin .leq 0 (.t 9) (.t 11)),xo 13 (.pick (.t 8) (.t 12) kf),xm 3 13] (rng 4 10))
.ret))
/-- caesura/sets.Has$1 -/
def fn99 : AFn := ⟨2, 14, c99, [(.t 3)], 0⟩
theorem fn99_body : fn99.body = c99 := rfl
theorem fn99_res : fn99.res = [(.t 3)] := rfl
theorem fn99_keep : fn99.keep = 0 := rfl
def c100 : ACode :=
(.seq (.reg [xo 4 (.mov (ki 0))] [])
(.seq (.reg [xm 5 0,xo 6 (.mm true [(.t 5),(ki 0)]),xm 7 1,xo 8 (.mm false [(.t 7),(ki 1114111)]),xm 0 6,xm 1 8] (rng 5 4))
(.seq (.reg [xm 9 0,xm 10 1,xo 11 (.mm false [(.t 10),(ki 55295)]),xo 12 (.call 124 [(true, (.t 9)),(true, (.t 11))]),xm 13 0,xo 14 (.mm true [(.t 13),(ki 57344)]),xm 15 1,xo 16 (.call 124 [(true, (.t 14)),(true, (.t 15))]),xo 17 (.bin .add 0 (.t 12) (.t 16)),xm 4 17] (rng 9 9))
.ret)))
/-- caesura/scalar.Count -/
def fn100 : AFn := ⟨2, 18, c100, [(.t 4)], 0⟩
theorem fn100_body : fn100.body = c100 := rfl
theorem fn100_res : fn100.res = [(.t 4)] := rfl
theorem fn100_keep : fn100.keep = 0 := rfl
def c101 : ACode :=
(.seq (.reg [xo 4 (.mov (ki 0))] [])
(.seq (.seq (.reg [xm 5 0,xm 6 1,xo 7 (.bin .gtr 0 (.t 5) (.t 6)),xm 8 7,xf 9 8 (.mov (.t 1)),xf 10 8 (.bin .lss 0 (.t 9) (ki 0)),xo 11 (.pick (.t 8) kt (.t 10)),xm 12 11,xf 13 12 (.mov (.t 0)),xf 14 12 (.bin .gtr 0 (.t 13) (ki 1114111)),xo 15 (.pick (.t 12) kt (.t 14))] (rng 5 10))
(.cond (.t 15) [15] (.seq (.reg [xo 4 (.mov (ki 0))] [])
.ret) .skip))
(.seq (.reg [xm 16 1,xo 17 (.mm false [(.t 16),(ki 1114111)]),xo 18 (.bin .add 0 (.t 17) (ki 1)),xo 19 (.call 125 [(true, (.t 18))]),xm 20 0,xo 21 (.call 125 [(true, (.t 20))]),xo 22 (.bin .sub 0 (.t 19) (.t 21)),xm 4 22] (rng 16 7))
.ret)))
/-- caesura/caesuraref01.Count -/
def fn101 : AFn := ⟨2, 23, c101, [(.t 4)], 0⟩
theorem fn101_body : fn101.body = c101 := rfl
theorem fn101_res : fn101.res = [(.t 4)] := rfl
theorem fn101_keep : fn101.keep = 0 := rfl
def c102 : ACode :=
(.seq (.reg [xo 6 (.mov (ki 0))] [])
(.seq (.seq (.reg [xm 11 0,xo 12 (.len 1 (.t 11)),xo 13 (.mov (ki 0))] [])
(.block 0 (.loop false (.seq (.reg [xo 14 (.bin .lss 0 (.t 13) (.t 12))] [])
(.seq (.cond (.t 14) [14] .skip (.exit 0))
(.seq (.block 1 (.seq (.reg [xm 15 13,xo 16 (.iaddr 2 (.t 11) (.t 13)),xo 17 (.load true 2 (.t 16)),xo 8 (.new [(.int .i64 0),(.int .i64 0)]),xm 7 15,xn (.store false 2 (.t 8) (.t 17))] [15,16,17])
(.seq (.seq (.reg [xm 18 7,xm 19 1,xo 20 (.len 1 (.t 19)),xo 21 (.bin .geq 0 (.t 18) (.t 20))] [18,19,20])
(.cond (.t 21) [21] (.seq (.reg [xo 6 (.mov (ki 1))] [])
.ret) .skip))
(.seq (.reg [xm 22 1,xm 23 7,xo 24 (.iaddr 2 (.t 22) (.t 23)),xo 25 (.load true 2 (.t 24)),xo 9 (.new [(.int .i64 0),(.int .i64 0)]),xn (.store false 2 (.t 9) (.t 25))] (rng 22 4))
(.seq (.reg [xm 26 2,xo 27 (.load true 2 (.t 8)),xo 28 (.load true 2 (.t 9)),xo 29 (.callv (.t 26) [(true, (.t 27)),(true, (.t 28))]),xm 10 29] (rng 26 4))
(.seq (.reg [xm 30 10,xo 31 (.bin .neq 0 (.t 30) (ki 0))] [30])
(.cond (.t 31) [31] (.seq (.reg [xm 32 10,xm 6 32] [32])
.ret) .skip)))))))
(.reg [xo 33 (.bin .add 0 (.t 13) (ki 1)),xm 13 33] [33])))))))
(.seq (.seq (.reg [xm 34 0,xo 35 (.len 1 (.t 34)),xm 36 1,xo 37 (.len 1 (.t 36)),xo 38 (.bin .lss 0 (.t 35) (.t 37))] (rng 34 4))
(.cond (.t 38) [38] (.seq (.reg [xo 6 (.mov (.k (.int .i64 (-1))))] [])
.ret) .skip))
(.seq (.reg [xo 6 (.mov (ki 0))] [])
.ret))))
/-- slices.CompareFunc[caesura/api.Set,caesura/api.Set,caesura/api.Range,caesura/api.Range] -/
def fn102 : AFn := ⟨3, 39, c102, [(.t 6)], 0⟩
theorem fn102_body : fn102.body = c102 := rfl
theorem fn102_res : fn102.res = [(.t 6)] := rfl
theorem fn102_keep : fn102.keep = 0 := rfl
def c119 : ACode :=
(.seq (.reg [xo 4 (.anil 3 1)] [])
(.seq (.reg [xo 5 (.mov (ki 0))] [])
(.seq (.block 0 (.loop false (.seq (.seq (.reg [xm 6 5,xm 7 0,xo 8 (.len 1 (.t 7)),xo 9 (.bin .lss 0 (.t 6) (.t 8)),xm 10 9,xt 11 10 (.mov (.t 0)),xt 12 10 (.mov (.t 5)),xt 13 10 (.iaddr 1 (.t 11) (.t 12)),xt 14 10 (.load false 1 (.t 13)),xt 15 10 (.mov (.t 1)),xt 16 10 (.bin .lss 0 (.t 14) (.t 15)),xo 17 (.pick (.t 10) (.t 16) kf)] (rng 6 11))
(.cond (.t 17) [17] .skip (.exit 0)))
(.block 1 (.reg [xm 18 5,xo 19 (.bin .add 0 (.t 18) (ki 1)),xm 5 19] [18,19])))))
(.seq (.seq (.reg [xm 20 5,xm 21 0,xo 22 (.len 1 (.t 21)),xo 23 (.bin .lss 0 (.t 20) (.t 22)),xm 24 23,xt 25 24 (.mov (.t 0)),xt 26 24 (.mov (.t 5)),xt 27 24 (.iaddr 1 (.t 25) (.t 26)),xt 28 24 (.load false 1 (.t 27)),xt 29 24 (.mov (.t 1)),xt 30 24 (.bin .eql 0 (.t 28) (.t 29)),xo 31 (.pick (.t 24) (.t 30) kf)] (rng 20 11))
(.cond (.t 31) [31] (.seq (.reg [xm 32 0,xm 4 32] [32])
.ret) .skip))
(.seq (.dreg [xo 33 (.mkl 3 1 [(.int .i64 0)] 0 [] false),xm 34 0,xm 35 5,yo 36 (.slc 1 (.t 34) none (some (.t 35)) none) [1, 2],yo 37 (.app 3 1 8 (.t 33) (.t 36)) [0, 1, 2, 3],xm 38 1,yo 39 (.lst 3 1 [(.int .i64 0)] 1 [(0, (.t 38))]) [5],yo 40 (.app 3 1 8 (.t 37) (.t 39)) [0, 1, 2, 3, 4, 5, 6],xm 41 0,xm 42 5,yo 43 (.slc 1 (.t 41) (some (.t 42)) none none) [8, 9],yo 44 (.app 3 1 8 (.t 40) (.t 43)) [0, 1, 2, 3, 4, 5, 6, 7, 8, 9, 10],ym 4 44 (rng 0 12)] (rng 33 12))
.ret)))))
/-- caesura/caesuraref03.put -/
def fn119 : AFn := ⟨2, 45, c119, [(.t 4)], 0⟩
theorem fn119_body : fn119.body = c119 := rfl
theorem fn119_res : fn119.res = [(.t 4)] := rfl
theorem fn119_keep : fn119.keep = 0 := rfl
def c120 : ACode :=
(.seq (.reg [xo 2 (.new [(.int .i64 0),(.bool false)])] [])
(.seq (.block 0 (.seq (.reg [xm 4 0,xo 5 (.bin .leq 0 (.t 4) (ki 0)),xm 3 5] [4,5])
(.cond (.t 3) [3] (.seq (.reg [xo 6 (.agg [(.int .i64 0),(.bool false)] []),xn (.store false 2 (.t 2) (.t 6))] [6])
.ret) (.seq (.reg [xm 8 0,xo 9 (.bin .gtr 0 (.t 8) (ki 1114111)),xm 7 9] [8,9])
(.cond (.t 7) [7] (.seq (.reg [xo 10 (.agg [(.int .i64 0),(.bool false)] [(0, 1, (ki 1114111)),(1, 1, kt)]),xn (.store false 2 (.t 2) (.t 10))] [10])
.ret) (.seq (.reg [xm 12 0,xo 13 (.bin .gtr 0 (.t 12) (ki 55296)),xm 14 13,xt 15 14 (.mov (.t 0)),xt 16 14 (.bin .leq 0 (.t 15) (ki 57344)),xo 17 (.pick (.t 14) (.t 16) kf),xm 11 17] (rng 12 6))
(.cond (.t 11) [11] (.seq (.reg [xo 18 (.agg [(.int .i64 0),(.bool false)] [(0, 1, (ki 55295)),(1, 1, kt)]),xn (.store false 2 (.t 2) (.t 18))] [18])
.ret) .skip)))))))
(.seq (.reg [xm 19 0,xo 20 (.bin .sub 0 (.t 19) (ki 1)),xo 21 (.agg [(.int .i64 0),(.bool false)] [(0, 1, (.t 20)),(1, 1, kt)]),xn (.store false 2 (.t 2) (.t 21))] [19,20,21])
.ret)))
/-- caesura/caesuraref01.Prev -/
def fn120 : AFn := ⟨1, 22, c120, [(.c 2 true 2)], 0⟩
theorem fn120_body : fn120.body = c120 := rfl
theorem fn120_res : fn120.res = [(.c 2 true 2)] := rfl
theorem fn120_keep : fn120.keep = 0 := rfl
def c121 : ACode :=
(.seq (.reg [xo 2 (.anil 3 1)] [])
(.seq (.reg [xo 3 (.anil 70 2)] [])
(.seq (.seq (.reg [xo 4 (.mov (ki 0))] [])
(.block 0 (.loop false (.seq (.seq (.reg [xm 5 4,xm 6 0,xo 7 (.len 1 (.t 6)),xo 8 (.bin .lss 0 (.t 5) (.t 7))] [5,6,7])
(.cond (.t 8) [8] .skip (.exit 0)))
(.seq (.block 1 (.reg [xm 11 3,xm 12 0,xm 13 4,xo 14 (.iaddr 1 (.t 12) (.t 13)),xo 15 (.load false 1 (.t 14)),xo 16 (.app 70 2 16 (.t 11) (.t 15)),xm 3 16] (rng 11 6)))
(.reg [xm 9 4,xo 10 (.bin .add 0 (.t 9) (ki 1)),xm 4 10] [9,10]))))))
(.seq (.reg [xm 17 3,xo 18 (.call 93 [(true, (.t 17))]),xm 2 18] [17,18])
.ret))))
/-- caesura/caesuraref03.Starts -/
def fn121 : AFn := ⟨1, 19, c121, [(.t 2)], 0⟩
theorem fn121_body : fn121.body = c121 := rfl
theorem fn121_res : fn121.res = [(.t 2)] := rfl
theorem fn121_keep : fn121.keep = 0 := rfl
def c122 : ACode :=
(.seq (.reg [xo 2 (.mov (.k (.int .i32 0))),xo 3 (.mov kf)] [])
(.seq (.seq (.reg [xm 5 0,xo 6 (.bin .lss 0 (.t 5) (ki 0)),xm 7 6,xf 8 7 (.mov (.t 0)),xf 9 7 (.bin .gtr 0 (.t 8) (ki 1114111)),xo 10 (.pick (.t 7) kt (.t 9))] (rng 5 5))
(.cond (.t 10) [10] (.seq (.reg [xo 2 (.mov (.k (.int .i32 0))),xo 3 (.mov kf)] [])
.ret) .skip))
(.seq (.reg [xm 11 0,xo 12 (.conv .i32 (.t 11)),xm 4 12] [11,12])
(.seq (.reg [xm 13 4,xm 14 4,xo 15 (.bin .leq 0 (.t 14) (.k (.int .i32 55295))),xm 16 15,xf 17 16 (.mov (.t 4)),xf 18 16 (.bin .geq 0 (.t 17) (.k (.int .i32 57344))),xo 19 (.pick (.t 16) kt (.t 18)),xm 2 13,xm 3 19] (rng 13 7))
.ret))))
/-- caesura/scalar.sign -/
def fn122 : AFn := ⟨1, 20, c122, [(.t 2),(.t 3)], 0⟩
theorem fn122_body : fn122.body = c122 := rfl
theorem fn122_res : fn122.res = [(.t 2), (.t 3)] := rfl
theorem fn122_keep : fn122.keep = 0 := rfl
def c123 : ACode :=
(.seq (.reg [xo 4 (.mov (ki 0))] [])
(.seq (.seq (.reg [xm 6 0,xo 7 (.len 1 (.t 6)),xo 8 (.mov (ki 0))] [6])
(.block 0 (.loop false (.seq (.reg [xo 9 (.bin .lss 0 (.t 8) (.t 7))] [])
(.seq (.cond (.t 9) [9] .skip (.exit 0))
(.seq (.block 1 (.seq (.reg [xm 10 8,xm 5 10] [10])
(.seq (.reg [xm 11 1,xm 12 0,xm 13 5,xo 14 (.iaddr 2 (.t 12) (.t 13)),xo 15 (.load true 2 (.t 14)),xo 16 (.callv (.t 11) [(true, (.t 15))])] (rng 11 5))
(.cond (.t 16) [16] (.seq (.reg [xm 17 5,xm 4 17] [17])
.ret) .skip))))
(.reg [xo 18 (.bin .add 0 (.t 8) (ki 1)),xm 8 18] [18])))))))
(.seq (.reg [xo 4 (.mov (.k (.int .i64 (-1))))] [])
.ret)))
/-- slices.IndexFunc[caesura/api.Set,caesura/api.Range] -/
def fn123 : AFn := ⟨2, 19, c123, [(.t 4)], 0⟩
theorem fn123_body : fn123.body = c123 := rfl
theorem fn123_res : fn123.res = [(.t 4)] := rfl
theorem fn123_keep : fn123.keep = 0 := rfl
def c124 : ACode :=
(.seq (.reg [xo 4 (.mov (ki 0))] [])
(.seq (.seq (.reg [xm 5 1,xm 6 0,xo 7 (.bin .lss 0 (.t 5) (.t 6))] [5,6])
(.cond (.t 7) [7] (.seq (.reg [xo 4 (.mov (ki 0))] [])
.ret) .skip))
(.seq (.reg [xm 8 1,xm 9 0,xo 10 (.bin .sub 0 (.t 8) (.t 9)),xo 11 (.bin .add 0 (.t 10) (ki 1)),xm 4 11] (rng 8 4))
.ret)))
/-- caesura/scalar.numbers -/
def fn124 : AFn := ⟨2, 12, c124, [(.t 4)], 0⟩
theorem fn124_body : fn124.body = c124 := rfl
theorem fn124_res : fn124.res = [(.t 4)] := rfl
theorem fn124_keep : fn124.keep = 0 := rfl
def c125 : ACode :=
(.seq (.reg [xo 2 (.mov (ki 0))] [])
(.seq (.reg [xm 3 0,xo 4 (.mm false [(.t 3),(ki 1114112)]),xo 5 (.mm true [(ki 0),(.t 4)]),xm 0 5] [3,4,5])
(.seq (.seq (.reg [xm 6 0,xo 7 (.bin .leq 0 (.t 6) (ki 55296))] [6])
(.cond (.t 7) [7] (.seq (.reg [xm 8 0,xm 2 8] [8])
.ret) .skip))
(.seq (.reg [xm 9 0,xo 10 (.mm true [(.t 9),(ki 57344)]),xo 11 (.bin .sub 0 (.t 10) (ki 2048)),xm 2 11] [9,10,11])
.ret))))
/-- caesura/caesuraref01.Below -/
def fn125 : AFn := ⟨1, 12, c125, [(.t 2)], 0⟩
theorem fn125_body : fn125.body = c125 := rfl
theorem fn125_res : fn125.res = [(.t 2)] := rfl
theorem fn125_keep : fn125.keep = 0 := rfl
end Go.Proofs.Abs
