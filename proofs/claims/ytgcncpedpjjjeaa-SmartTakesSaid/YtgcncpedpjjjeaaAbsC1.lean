/- The program's functions as codes of the abstract interpreter, and that each is the program's own. Printed by wip/abs/absgen.py and codetext.py. -/
import Derived.Test.YtgcncpedpjjjeaaAbsP
import Derived.Test.YtgcncpedpjjjeaaProg
import Derived.KernelRfl
set_option maxRecDepth 100000
set_option linter.all false
set_option linter.unusedVariables false
set_option linter.unusedSimpArgs false
set_option linter.constructorNameAsVariable false
set_option linter.defProp false
namespace Go.Proofs.Abs
open ACode AIns AX
def c7 : ACode :=
(.seq (.reg [xo 4 (.mov kf)] [])
(.seq (.seq (.reg [xm 19 0,xo 20 (.call 16 [(true, (.t 19))]),xm 21 20,xf 22 21 (.mov (.t 1)),xf 23 21 (.call 16 [(true, (.t 22))]),xo 24 (.pick (.t 21) kt (.t 23)),xm 25 24,xf 26 25 (.mov (.t 0)),xf 27 25 (.len 1 (.t 26)),xf 28 25 (.mov (.t 1)),xf 29 25 (.len 1 (.t 28)),xf 30 25 (.bin .add 0 (.t 27) (.t 29)),xf 31 25 (.bin .gtr 0 (.t 30) (ki 200)),xo 32 (.pick (.t 25) kt (.t 31))] (rng 19 13))
(.cond (.t 32) [32] (.seq (.reg [xo 33 (.call 37 []),xm 4 33] [33])
.ret) .skip))
(.seq (.reg [xm 34 0,xo 35 (.call 18 [(true, (.t 34))]),xm 36 1,xo 37 (.call 18 [(true, (.t 36))]),xm 5 35,xm 6 37] (rng 34 4))
(.seq (.reg [xm 39 5,xm 40 6,xo 41 (.call 38 [(true, (.t 39)),(true, (.t 40))]),xm 38 41,xo 42 (.ext (.t 38) 0),xo 43 (.ext (.t 38) 1),xm 7 42,xm 8 43] (rng 38 6))
(.seq (.reg [xm 45 5,xm 46 6,xo 47 (.call 39 [(true, (.t 45)),(true, (.t 46))]),xm 44 47,xo 48 (.ext (.t 44) 0),xo 49 (.ext (.t 44) 1),xm 9 48,xm 10 49] (rng 44 6))
(.seq (.reg [xm 51 5,xo 52 (.call 40 [(true, (.t 51))]),xm 50 52,xo 53 (.ext (.t 50) 0),xo 54 (.ext (.t 50) 1),xm 11 53,xm 12 54] (rng 50 5))
(.seq (.reg [xm 56 5,xo 57 (.call 41 [(true, (.t 56))]),xm 55 57,xo 58 (.ext (.t 55) 0),xo 59 (.ext (.t 55) 1),xm 13 58,xm 14 59] (rng 55 5))
(.seq (.reg [xm 60 0,xm 61 1,xo 62 (.call 42 [(true, (.t 60)),(true, (.t 61))]),xm 63 0,xm 64 1,xo 65 (.call 43 [(true, (.t 63)),(true, (.t 64))]),xm 66 0,xo 67 (.call 44 [(true, (.t 66))]),xm 68 0,xo 69 (.call 45 [(true, (.t 68))]),xm 15 62,xm 16 65,xm 17 67,xm 18 69] (rng 60 10))
(.seq (.reg [xm 70 7,xm 71 15,xo 72 (.call 28 [(true, (.t 70)),(true, (.t 71))]),xm 73 72,xt 74 73 (.mov (.t 8)),xt 75 73 (.mov (.t 15)),xt 76 73 (.len 1 (.t 75)),xt 77 73 (.bin .gtr 0 (.t 76) (ki 0)),xt 78 73 (.bin .eql 1 (.t 74) (.t 77)),xo 79 (.pick (.t 73) (.t 78) kf),xm 80 79,xt 81 80 (.mov (.t 9)),xt 82 80 (.mov (.t 16)),xt 83 80 (.call 28 [(true, (.t 81)),(true, (.t 82))]),xo 84 (.pick (.t 80) (.t 83) kf),xm 85 84,xt 86 85 (.mov (.t 10)),xt 87 85 (.mov (.t 16)),xt 88 85 (.len 1 (.t 87)),xt 89 85 (.bin .gtr 0 (.t 88) (ki 0)),xt 90 85 (.bin .eql 1 (.t 86) (.t 89)),xo 91 (.pick (.t 85) (.t 90) kf),xm 92 91,xt 93 92 (.mov (.t 11)),xt 94 92 (.mov (.t 17)),xt 95 92 (.call 28 [(true, (.t 93)),(true, (.t 94))]),xo 96 (.pick (.t 92) (.t 95) kf),xm 97 96,xt 98 97 (.mov (.t 12)),xt 99 97 (.mov (.t 17)),xt 100 97 (.len 1 (.t 99)),xt 101 97 (.bin .gtr 0 (.t 100) (ki 0)),xt 102 97 (.bin .eql 1 (.t 98) (.t 101)),xo 103 (.pick (.t 97) (.t 102) kf),xm 104 103,xt 105 104 (.mov (.t 13)),xt 106 104 (.mov (.t 18)),xt 107 104 (.call 28 [(true, (.t 105)),(true, (.t 106))]),xo 108 (.pick (.t 104) (.t 107) kf),xm 109 108,xt 110 109 (.mov (.t 14)),xt 111 109 (.mov (.t 18)),xt 112 109 (.len 1 (.t 111)),xt 113 109 (.bin .gtr 0 (.t 112) (ki 0)),xt 114 109 (.bin .eql 1 (.t 110) (.t 113)),xo 115 (.pick (.t 109) (.t 114) kf),xm 116 115,xt 117 116 (.mov (.t 5)),xt 118 116 (.mov (.t 0)),xt 119 116 (.call 28 [(true, (.t 117)),(true, (.t 118))]),xo 120 (.pick (.t 116) (.t 119) kf),xm 121 120,xt 122 121 (.mov (.t 6)),xt 123 121 (.mov (.t 1)),xt 124 121 (.call 28 [(true, (.t 122)),(true, (.t 123))]),xo 125 (.pick (.t 121) (.t 124) kf),xm 126 125,xt 127 126 (.call 37 []),xo 128 (.pick (.t 126) (.t 127) kf),xm 4 128] (rng 70 59))
.ret)))))))))
/-- caesura/caesuralaw12.SmartTells -/
def fn7 : AFn := ⟨2, 129, c7, [(.t 4)], 0⟩
theorem fn7_body : fn7.body = c7 := rfl
theorem fn7_res : fn7.res = [(.t 4)] := rfl
theorem fn7_keep : fn7.keep = 0 := rfl
def c8 : ACode :=
(.seq (.reg [xo 4 (.mov kf)] [])
(.seq (.seq (.reg [xm 35 0,xo 36 (.call 16 [(true, (.t 35))]),xm 37 36,xf 38 37 (.mov (.t 1)),xf 39 37 (.call 16 [(true, (.t 38))]),xo 40 (.pick (.t 37) kt (.t 39)),xm 41 40,xf 42 41 (.mov (.t 0)),xf 43 41 (.call 30 [(true, (.t 42))]),xf 44 41 (.un .not (.t 43)),xo 45 (.pick (.t 41) kt (.t 44)),xm 46 45,xf 47 46 (.mov (.t 1)),xf 48 46 (.call 30 [(true, (.t 47))]),xf 49 46 (.un .not (.t 48)),xo 50 (.pick (.t 46) kt (.t 49)),xm 51 50,xf 52 51 (.mov (.t 0)),xf 53 51 (.len 1 (.t 52)),xf 54 51 (.mov (.t 1)),xf 55 51 (.len 1 (.t 54)),xf 56 51 (.bin .add 0 (.t 53) (.t 55)),xf 57 51 (.bin .gtr 0 (.t 56) (ki 150)),xo 58 (.pick (.t 51) kt (.t 57))] (rng 35 23))
(.cond (.t 58) [58] (.seq (.reg [xo 59 (.call 37 []),xm 4 59] [59])
.ret) .skip))
(.seq (.reg [xm 61 0,xo 62 (.call 41 [(true, (.t 61))]),xm 60 62,xo 63 (.ext (.t 60) 0),xo 64 (.ext (.t 60) 1),xm 5 63,xm 6 64] (rng 60 5))
(.seq (.reg [xm 66 1,xo 67 (.call 41 [(true, (.t 66))]),xm 65 67,xo 68 (.ext (.t 65) 0),xo 69 (.ext (.t 65) 1),xm 7 68,xm 8 69] (rng 65 5))
(.seq (.seq (.reg [xm 70 6,xo 71 (.un .not (.t 70)),xm 72 71,xf 73 72 (.mov (.t 8)),xf 74 72 (.un .not (.t 73)),xo 75 (.pick (.t 72) kt (.t 74))] (rng 70 5))
(.cond (.t 75) [75] (.seq (.reg [xo 4 (.mov kf)] [])
.ret) .skip))
(.seq (.reg [xo 76 (.call 34 [(true, (ki 1))]),xo 77 (.call 34 [(true, (ki 0))]),xm 9 76,xm 10 77] [76,77])
(.seq (.reg [xm 79 5,xo 80 (.call 41 [(true, (.t 79))]),xm 78 80,xo 81 (.ext (.t 78) 0),xo 82 (.ext (.t 78) 1),xm 11 81,xm 12 82] (rng 78 5))
(.seq (.seq (.reg [xm 83 12,xo 84 (.un .not (.t 83)),xm 85 84,xf 86 85 (.mov (.t 11)),xf 87 85 (.mov (.t 5)),xf 88 85 (.call 33 [(true, (.t 86)),(true, (.t 87))]),xf 89 85 (.un .not (.t 88)),xo 90 (.pick (.t 85) kt (.t 89))] (rng 83 7))
(.cond (.t 90) [90] (.seq (.reg [xo 4 (.mov kf)] [])
.ret) .skip))
(.seq (.reg [xm 92 5,xm 93 9,xo 94 (.call 38 [(true, (.t 92)),(true, (.t 93))]),xm 91 94,xo 95 (.ext (.t 91) 0),xo 96 (.ext (.t 91) 1),xm 13 95,xm 14 96] (rng 91 6))
(.seq (.reg [xm 98 9,xm 99 5,xo 100 (.call 38 [(true, (.t 98)),(true, (.t 99))]),xm 97 100,xo 101 (.ext (.t 97) 0),xo 102 (.ext (.t 97) 1),xm 15 101,xm 16 102] (rng 97 6))
(.seq (.reg [xm 104 10,xm 105 5,xo 106 (.call 38 [(true, (.t 104)),(true, (.t 105))]),xm 103 106,xo 107 (.ext (.t 103) 0),xo 108 (.ext (.t 103) 1),xm 17 107,xm 18 108] (rng 103 6))
(.seq (.reg [xm 110 5,xm 111 10,xo 112 (.call 39 [(true, (.t 110)),(true, (.t 111))]),xm 109 112,xo 113 (.ext (.t 109) 0),xo 114 (.ext (.t 109) 1),xm 19 113,xm 20 114] (rng 109 6))
(.seq (.reg [xm 116 5,xm 117 5,xo 118 (.call 39 [(true, (.t 116)),(true, (.t 117))]),xm 115 118,xo 119 (.ext (.t 115) 0),xo 120 (.ext (.t 115) 1),xm 21 119,xm 22 120] (rng 115 6))
(.seq (.reg [xm 122 5,xm 123 7,xo 124 (.call 39 [(true, (.t 122)),(true, (.t 123))]),xm 121 124,xo 125 (.ext (.t 121) 0),xo 126 (.ext (.t 121) 1),xm 23 125,xm 24 126] (rng 121 6))
(.seq (.reg [xm 128 23,xm 129 5,xo 130 (.call 39 [(true, (.t 128)),(true, (.t 129))]),xm 127 130,xo 131 (.ext (.t 127) 0),xo 132 (.ext (.t 127) 1),xm 25 131,xm 26 132] (rng 127 6))
(.seq (.reg [xm 134 5,xo 135 (.call 40 [(true, (.t 134))]),xm 133 135,xo 136 (.ext (.t 133) 0),xo 137 (.ext (.t 133) 1),xm 27 136,xm 28 137] (rng 133 5))
(.seq (.reg [xm 139 27,xo 140 (.call 40 [(true, (.t 139))]),xm 138 140,xo 141 (.ext (.t 138) 0),xo 142 (.ext (.t 138) 1),xm 29 141,xm 30 142] (rng 138 5))
(.seq (.reg [xm 144 5,xm 145 9,xo 146 (.call 39 [(true, (.t 144)),(true, (.t 145))]),xm 143 146,xo 147 (.ext (.t 143) 0),xo 148 (.ext (.t 143) 1),xm 31 147,xm 32 148] (rng 143 6))
(.seq (.reg [xm 150 31,xo 151 (.call 40 [(true, (.t 150))]),xm 149 151,xo 152 (.ext (.t 149) 0),xo 153 (.ext (.t 149) 1),xm 33 152,xm 34 153] (rng 149 5))
(.seq (.seq (.reg [xm 154 14,xo 155 (.un .not (.t 154)),xm 156 155,xf 157 156 (.mov (.t 16)),xf 158 156 (.un .not (.t 157)),xo 159 (.pick (.t 156) kt (.t 158)),xm 160 159,xf 161 160 (.mov (.t 18)),xf 162 160 (.un .not (.t 161)),xo 163 (.pick (.t 160) kt (.t 162)),xm 164 163,xf 165 164 (.mov (.t 20)),xf 166 164 (.un .not (.t 165)),xo 167 (.pick (.t 164) kt (.t 166)),xm 168 167,xf 169 168 (.mov (.t 22)),xf 170 168 (.un .not (.t 169)),xo 171 (.pick (.t 168) kt (.t 170)),xm 172 171,xf 173 172 (.mov (.t 24)),xf 174 172 (.un .not (.t 173)),xo 175 (.pick (.t 172) kt (.t 174)),xm 176 175,xf 177 176 (.mov (.t 26)),xf 178 176 (.un .not (.t 177)),xo 179 (.pick (.t 176) kt (.t 178)),xm 180 179,xf 181 180 (.mov (.t 28)),xf 182 180 (.un .not (.t 181)),xo 183 (.pick (.t 180) kt (.t 182)),xm 184 183,xf 185 184 (.mov (.t 30)),xf 186 184 (.un .not (.t 185)),xo 187 (.pick (.t 184) kt (.t 186)),xm 188 187,xf 189 188 (.mov (.t 32)),xf 190 188 (.un .not (.t 189)),xo 191 (.pick (.t 188) kt (.t 190)),xm 192 191,xf 193 192 (.mov (.t 34)),xf 194 192 (.un .not (.t 193)),xo 195 (.pick (.t 192) kt (.t 194))] (rng 154 41))
(.cond (.t 195) [195] (.seq (.reg [xo 4 (.mov kf)] [])
.ret) .skip))
(.seq (.reg [xm 196 13,xm 197 5,xo 198 (.call 33 [(true, (.t 196)),(true, (.t 197))]),xm 199 198,xt 200 199 (.mov (.t 15)),xt 201 199 (.mov (.t 5)),xt 202 199 (.call 33 [(true, (.t 200)),(true, (.t 201))]),xo 203 (.pick (.t 199) (.t 202) kf),xm 204 203,xt 205 204 (.mov (.t 17)),xt 206 204 (.mov (.t 10)),xt 207 204 (.call 33 [(true, (.t 205)),(true, (.t 206))]),xo 208 (.pick (.t 204) (.t 207) kf),xm 209 208,xt 210 209 (.mov (.t 19)),xt 211 209 (.mov (.t 5)),xt 212 209 (.call 33 [(true, (.t 210)),(true, (.t 211))]),xo 213 (.pick (.t 209) (.t 212) kf),xm 214 213,xt 215 214 (.mov (.t 21)),xt 216 214 (.mov (.t 5)),xt 217 214 (.call 33 [(true, (.t 215)),(true, (.t 216))]),xo 218 (.pick (.t 214) (.t 217) kf),xm 219 218,xt 220 219 (.mov (.t 25)),xt 221 219 (.mov (.t 23)),xt 222 219 (.call 33 [(true, (.t 220)),(true, (.t 221))]),xo 223 (.pick (.t 219) (.t 222) kf),xm 224 223,xt 225 224 (.mov (.t 29)),xt 226 224 (.mov (.t 27)),xt 227 224 (.call 33 [(true, (.t 225)),(true, (.t 226))]),xo 228 (.pick (.t 224) (.t 227) kf),xm 229 228,xt 230 229 (.mov (.t 33)),xt 231 229 (.mov (.t 27)),xt 232 229 (.call 33 [(true, (.t 230)),(true, (.t 231))]),xo 233 (.pick (.t 229) (.t 232) kf),xm 234 233,xt 235 234 (.call 37 []),xo 236 (.pick (.t 234) (.t 235) kf),xm 4 236] (rng 196 41))
.ret)))))))))))))))))))))
/-- caesura/caesuralaw12.SmartLaws -/
def fn8 : AFn := ⟨2, 237, c8, [(.t 4)], 0⟩
theorem fn8_body : fn8.body = c8 := rfl
theorem fn8_res : fn8.res = [(.t 4)] := rfl
theorem fn8_keep : fn8.keep = 0 := rfl
def c9 : ACode :=
(.seq (.reg [xo 6 (.mov kf)] [])
(.seq (.seq (.reg [xm 31 0,xo 32 (.len 1 (.t 31)),xm 33 1,xo 34 (.len 1 (.t 33)),xo 35 (.bin .add 0 (.t 32) (.t 34)),xm 36 2,xo 37 (.len 1 (.t 36)),xo 38 (.bin .add 0 (.t 35) (.t 37)),xo 39 (.bin .gtr 0 (.t 38) (ki 100)),xm 40 39,xf 41 40 (.mov (.t 0)),xf 42 40 (.call 30 [(true, (.t 41))]),xf 43 40 (.un .not (.t 42)),xo 44 (.pick (.t 40) kt (.t 43)),xm 45 44,xf 46 45 (.mov (.t 1)),xf 47 45 (.call 30 [(true, (.t 46))]),xf 48 45 (.un .not (.t 47)),xo 49 (.pick (.t 45) kt (.t 48)),xm 50 49,xf 51 50 (.mov (.t 2)),xf 52 50 (.call 30 [(true, (.t 51))]),xf 53 50 (.un .not (.t 52)),xo 54 (.pick (.t 50) kt (.t 53)),xm 55 54,xf 56 55 (.mov (.t 0)),xf 57 55 (.call 16 [(true, (.t 56))]),xo 58 (.pick (.t 55) kt (.t 57)),xm 59 58,xf 60 59 (.mov (.t 1)),xf 61 59 (.call 16 [(true, (.t 60))]),xo 62 (.pick (.t 59) kt (.t 61)),xm 63 62,xf 64 63 (.mov (.t 2)),xf 65 63 (.call 16 [(true, (.t 64))]),xo 66 (.pick (.t 63) kt (.t 65))] (rng 31 35))
(.cond (.t 66) [66] (.seq (.reg [xo 67 (.call 37 []),xm 6 67] [67])
.ret) .skip))
(.seq (.reg [xm 69 0,xo 70 (.call 41 [(true, (.t 69))]),xm 68 70,xo 71 (.ext (.t 68) 0),xo 72 (.ext (.t 68) 1),xm 7 71,xm 8 72] (rng 68 5))
(.seq (.reg [xm 74 1,xo 75 (.call 41 [(true, (.t 74))]),xm 73 75,xo 76 (.ext (.t 73) 0),xo 77 (.ext (.t 73) 1),xm 9 76,xm 10 77] (rng 73 5))
(.seq (.reg [xm 79 2,xo 80 (.call 41 [(true, (.t 79))]),xm 78 80,xo 81 (.ext (.t 78) 0),xo 82 (.ext (.t 78) 1),xm 11 81,xm 12 82] (rng 78 5))
(.seq (.seq (.reg [xm 83 8,xo 84 (.un .not (.t 83)),xm 85 84,xf 86 85 (.mov (.t 10)),xf 87 85 (.un .not (.t 86)),xo 88 (.pick (.t 85) kt (.t 87)),xm 89 88,xf 90 89 (.mov (.t 12)),xf 91 89 (.un .not (.t 90)),xo 92 (.pick (.t 89) kt (.t 91))] (rng 83 9))
(.cond (.t 92) [92] (.seq (.reg [xo 6 (.mov kf)] [])
.ret) .skip))
(.seq (.reg [xm 94 7,xm 95 9,xo 96 (.call 38 [(true, (.t 94)),(true, (.t 95))]),xm 93 96,xo 97 (.ext (.t 93) 0),xo 98 (.ext (.t 93) 1),xm 13 97,xm 14 98] (rng 93 6))
(.seq (.reg [xm 100 13,xm 101 11,xo 102 (.call 38 [(true, (.t 100)),(true, (.t 101))]),xm 99 102,xo 103 (.ext (.t 99) 0),xo 104 (.ext (.t 99) 1),xm 15 103,xm 16 104] (rng 99 6))
(.seq (.reg [xm 106 9,xm 107 11,xo 108 (.call 38 [(true, (.t 106)),(true, (.t 107))]),xm 105 108,xo 109 (.ext (.t 105) 0),xo 110 (.ext (.t 105) 1),xm 17 109,xm 18 110] (rng 105 6))
(.seq (.reg [xm 112 7,xm 113 17,xo 114 (.call 38 [(true, (.t 112)),(true, (.t 113))]),xm 111 114,xo 115 (.ext (.t 111) 0),xo 116 (.ext (.t 111) 1),xm 19 115,xm 20 116] (rng 111 6))
(.seq (.reg [xm 118 7,xm 119 9,xo 120 (.call 39 [(true, (.t 118)),(true, (.t 119))]),xm 117 120,xo 121 (.ext (.t 117) 0),xo 122 (.ext (.t 117) 1),xm 21 121,xm 22 122] (rng 117 6))
(.seq (.reg [xm 124 21,xm 125 11,xo 126 (.call 39 [(true, (.t 124)),(true, (.t 125))]),xm 123 126,xo 127 (.ext (.t 123) 0),xo 128 (.ext (.t 123) 1),xm 23 127,xm 24 128] (rng 123 6))
(.seq (.reg [xm 130 9,xm 131 11,xo 132 (.call 39 [(true, (.t 130)),(true, (.t 131))]),xm 129 132,xo 133 (.ext (.t 129) 0),xo 134 (.ext (.t 129) 1),xm 25 133,xm 26 134] (rng 129 6))
(.seq (.reg [xm 136 7,xm 137 25,xo 138 (.call 39 [(true, (.t 136)),(true, (.t 137))]),xm 135 138,xo 139 (.ext (.t 135) 0),xo 140 (.ext (.t 135) 1),xm 27 139,xm 28 140] (rng 135 6))
(.seq (.reg [xm 142 23,xm 143 21,xo 144 (.call 39 [(true, (.t 142)),(true, (.t 143))]),xm 141 144,xo 145 (.ext (.t 141) 0),xo 146 (.ext (.t 141) 1),xm 29 145,xm 30 146] (rng 141 6))
(.seq (.seq (.reg [xm 147 14,xo 148 (.un .not (.t 147)),xm 149 148,xf 150 149 (.mov (.t 16)),xf 151 149 (.un .not (.t 150)),xo 152 (.pick (.t 149) kt (.t 151)),xm 153 152,xf 154 153 (.mov (.t 18)),xf 155 153 (.un .not (.t 154)),xo 156 (.pick (.t 153) kt (.t 155)),xm 157 156,xf 158 157 (.mov (.t 20)),xf 159 157 (.un .not (.t 158)),xo 160 (.pick (.t 157) kt (.t 159)),xm 161 160,xf 162 161 (.mov (.t 22)),xf 163 161 (.un .not (.t 162)),xo 164 (.pick (.t 161) kt (.t 163)),xm 165 164,xf 166 165 (.mov (.t 24)),xf 167 165 (.un .not (.t 166)),xo 168 (.pick (.t 165) kt (.t 167)),xm 169 168,xf 170 169 (.mov (.t 26)),xf 171 169 (.un .not (.t 170)),xo 172 (.pick (.t 169) kt (.t 171)),xm 173 172,xf 174 173 (.mov (.t 28)),xf 175 173 (.un .not (.t 174)),xo 176 (.pick (.t 173) kt (.t 175)),xm 177 176,xf 178 177 (.mov (.t 30)),xf 179 177 (.un .not (.t 178)),xo 180 (.pick (.t 177) kt (.t 179))] (rng 147 33))
(.cond (.t 180) [180] (.seq (.reg [xo 6 (.mov kf)] [])
.ret) .skip))
(.seq (.reg [xm 181 15,xm 182 19,xo 183 (.call 33 [(true, (.t 181)),(true, (.t 182))]),xm 184 183,xt 185 184 (.mov (.t 23)),xt 186 184 (.mov (.t 27)),xt 187 184 (.call 33 [(true, (.t 185)),(true, (.t 186))]),xo 188 (.pick (.t 184) (.t 187) kf),xm 189 188,xt 190 189 (.mov (.t 29)),xt 191 189 (.mov (.t 23)),xt 192 189 (.call 33 [(true, (.t 190)),(true, (.t 191))]),xo 193 (.pick (.t 189) (.t 192) kf),xm 194 193,xt 195 194 (.call 37 []),xo 196 (.pick (.t 194) (.t 195) kf),xm 6 196] (rng 181 16))
.ret)))))))))))))))))
/-- caesura/caesuralaw12.SmartChains -/
def fn9 : AFn := ⟨3, 197, c9, [(.t 6)], 0⟩
theorem fn9_body : fn9.body = c9 := rfl
theorem fn9_res : fn9.res = [(.t 6)] := rfl
theorem fn9_keep : fn9.keep = 0 := rfl
def c10 : ACode :=
(.seq (.reg [xo 6 (.mov kf)] [])
(.seq (.seq (.reg [xm 21 0,xo 22 (.call 16 [(true, (.t 21))]),xm 23 22,xf 24 23 (.mov (.t 1)),xf 25 23 (.call 16 [(true, (.t 24))]),xo 26 (.pick (.t 23) kt (.t 25)),xm 27 26,xf 28 27 (.mov (.t 0)),xf 29 27 (.call 30 [(true, (.t 28))]),xf 30 27 (.un .not (.t 29)),xo 31 (.pick (.t 27) kt (.t 30)),xm 32 31,xf 33 32 (.mov (.t 1)),xf 34 32 (.call 30 [(true, (.t 33))]),xf 35 32 (.un .not (.t 34)),xo 36 (.pick (.t 32) kt (.t 35)),xm 37 36,xf 38 37 (.mov (.t 2)),xf 39 37 (.len 1 (.t 38)),xf 40 37 (.bin .gtr 0 (.t 39) (ki 6)),xo 41 (.pick (.t 37) kt (.t 40)),xm 42 41,xf 43 42 (.mov (.t 0)),xf 44 42 (.len 1 (.t 43)),xf 45 42 (.mov (.t 1)),xf 46 42 (.len 1 (.t 45)),xf 47 42 (.bin .add 0 (.t 44) (.t 46)),xf 48 42 (.bin .gtr 0 (.t 47) (ki 150)),xo 49 (.pick (.t 42) kt (.t 48))] (rng 21 28))
(.cond (.t 49) [49] (.seq (.reg [xo 50 (.call 37 []),xm 6 50] [50])
.ret) .skip))
(.seq (.reg [xm 52 0,xm 53 1,xo 54 (.call 38 [(true, (.t 52)),(true, (.t 53))]),xm 51 54,xo 55 (.ext (.t 51) 0),xo 56 (.ext (.t 51) 1),xm 7 55,xm 8 56] (rng 51 6))
(.seq (.reg [xm 58 0,xm 59 1,xo 60 (.call 39 [(true, (.t 58)),(true, (.t 59))]),xm 57 60,xo 61 (.ext (.t 57) 0),xo 62 (.ext (.t 57) 1),xm 9 61,xm 10 62] (rng 57 6))
(.seq (.reg [xm 64 0,xo 65 (.call 40 [(true, (.t 64))]),xm 63 65,xo 66 (.ext (.t 63) 0),xo 67 (.ext (.t 63) 1),xm 11 66,xm 12 67] (rng 63 5))
(.seq (.reg [xm 69 0,xo 70 (.call 41 [(true, (.t 69))]),xm 68 70,xo 71 (.ext (.t 68) 0),xo 72 (.ext (.t 68) 1),xm 13 71,xm 14 72] (rng 68 5))
(.seq (.reg [xm 74 0,xm 75 1,xo 76 (.call 19 [(true, (.t 74)),(true, (.t 75))]),xm 73 76,xo 77 (.ext (.t 73) 0),xo 78 (.ext (.t 73) 1),xm 15 77,xm 16 78] (rng 73 6))
(.seq (.reg [xm 80 0,xm 81 1,xo 82 (.call 20 [(true, (.t 80)),(true, (.t 81))]),xm 79 82,xo 83 (.ext (.t 79) 0),xo 84 (.ext (.t 79) 1),xm 17 83,xm 18 84] (rng 79 6))
(.seq (.reg [xm 86 0,xo 87 (.call 21 [(true, (.t 86))]),xm 85 87,xo 88 (.ext (.t 85) 0),xo 89 (.ext (.t 85) 1),xm 19 88,xm 20 89] (rng 85 5))
(.seq (.seq (.reg [xm 90 8,xo 91 (.un .not (.t 90)),xm 92 91,xf 93 92 (.mov (.t 10)),xf 94 92 (.un .not (.t 93)),xo 95 (.pick (.t 92) kt (.t 94)),xm 96 95,xf 97 96 (.mov (.t 12)),xf 98 96 (.un .not (.t 97)),xo 99 (.pick (.t 96) kt (.t 98)),xm 100 99,xf 101 100 (.mov (.t 14)),xf 102 100 (.un .not (.t 101)),xo 103 (.pick (.t 100) kt (.t 102)),xm 104 103,xf 105 104 (.mov (.t 16)),xf 106 104 (.un .not (.t 105)),xo 107 (.pick (.t 104) kt (.t 106)),xm 108 107,xf 109 108 (.mov (.t 18)),xf 110 108 (.un .not (.t 109)),xo 111 (.pick (.t 108) kt (.t 110)),xm 112 111,xf 113 112 (.mov (.t 20)),xf 114 112 (.un .not (.t 113)),xo 115 (.pick (.t 112) kt (.t 114))] (rng 90 25))
(.cond (.t 115) [115] (.seq (.reg [xo 6 (.mov kf)] [])
.ret) .skip))
(.seq (.reg [xm 116 7,xm 117 2,xo 118 (.call 31 [(true, (.t 116)),(true, (.t 117))]),xm 119 15,xm 120 2,xo 121 (.call 31 [(true, (.t 119)),(true, (.t 120))]),xo 122 (.bin .eql 1 (.t 118) (.t 121)),xm 123 122,xt 124 123 (.mov (.t 9)),xt 125 123 (.mov (.t 2)),xt 126 123 (.call 31 [(true, (.t 124)),(true, (.t 125))]),xt 127 123 (.mov (.t 17)),xt 128 123 (.mov (.t 2)),xt 129 123 (.call 31 [(true, (.t 127)),(true, (.t 128))]),xt 130 123 (.bin .eql 1 (.t 126) (.t 129)),xo 131 (.pick (.t 123) (.t 130) kf),xm 132 131,xt 133 132 (.mov (.t 11)),xt 134 132 (.mov (.t 2)),xt 135 132 (.call 31 [(true, (.t 133)),(true, (.t 134))]),xt 136 132 (.mov (.t 19)),xt 137 132 (.mov (.t 2)),xt 138 132 (.call 31 [(true, (.t 136)),(true, (.t 137))]),xt 139 132 (.bin .eql 1 (.t 135) (.t 138)),xo 140 (.pick (.t 132) (.t 139) kf),xm 141 140,xt 142 141 (.mov (.t 13)),xt 143 141 (.mov (.t 2)),xt 144 141 (.call 31 [(true, (.t 142)),(true, (.t 143))]),xt 145 141 (.mov (.t 0)),xt 146 141 (.mov (.t 2)),xt 147 141 (.call 31 [(true, (.t 145)),(true, (.t 146))]),xt 148 141 (.bin .eql 1 (.t 144) (.t 147)),xo 149 (.pick (.t 141) (.t 148) kf),xm 150 149,xt 151 150 (.mov (.t 7)),xt 152 150 (.len 1 (.t 151)),xt 153 150 (.mov (.t 15)),xt 154 150 (.len 1 (.t 153)),xt 155 150 (.bin .leq 0 (.t 152) (.t 154)),xo 156 (.pick (.t 150) (.t 155) kf),xm 157 156,xt 158 157 (.mov (.t 9)),xt 159 157 (.len 1 (.t 158)),xt 160 157 (.mov (.t 17)),xt 161 157 (.len 1 (.t 160)),xt 162 157 (.bin .leq 0 (.t 159) (.t 161)),xo 163 (.pick (.t 157) (.t 162) kf),xm 164 163,xt 165 164 (.mov (.t 11)),xt 166 164 (.len 1 (.t 165)),xt 167 164 (.mov (.t 19)),xt 168 164 (.len 1 (.t 167)),xt 169 164 (.bin .leq 0 (.t 166) (.t 168)),xo 170 (.pick (.t 164) (.t 169) kf),xm 171 170,xt 172 171 (.mov (.t 13)),xt 173 171 (.len 1 (.t 172)),xt 174 171 (.mov (.t 0)),xt 175 171 (.len 1 (.t 174)),xt 176 171 (.bin .leq 0 (.t 173) (.t 175)),xo 177 (.pick (.t 171) (.t 176) kf),xm 178 177,xt 179 178 (.call 37 []),xo 180 (.pick (.t 178) (.t 179) kf),xm 6 180] (rng 116 65))
.ret)))))))))))
/-- caesura/caesuralaw12.SmartTakes -/
def fn10 : AFn := ⟨3, 181, c10, [(.t 6)], 0⟩
theorem fn10_body : fn10.body = c10 := rfl
theorem fn10_res : fn10.res = [(.t 6)] := rfl
theorem fn10_keep : fn10.keep = 0 := rfl
def c16 : ACode :=
(.seq (.reg [xo 2 (.mov kf)] [])
(.seq (.reg [xo 3 (.mov (ki 0))] [])
(.seq (.seq (.reg [xo 4 (.mov (ki 0))] [])
(.block 0 (.loop false (.seq (.seq (.reg [xm 5 4,xm 6 0,xo 7 (.len 1 (.t 6)),xo 8 (.bin .lss 0 (.t 5) (.t 7)),xm 9 8,xt 10 9 (.mov (.t 3)),xt 11 9 (.bin .leq 0 (.t 10) (ki 600)),xo 12 (.pick (.t 9) (.t 11) kf)] (rng 5 7))
(.cond (.t 12) [12] .skip (.exit 0)))
(.seq (.block 1 (.dreg [xm 15 3,xm 16 0,xm 17 4,yo 18 (.iaddr 5 (.t 16) (.t 17)) [1, 2],yo 19 (.faddr 3 (.t 18)) [1, 2, 3],yo 20 (.load false 1 (.t 19)) [1, 2, 3, 4],yo 21 (.len 1 (.t 20)) [1, 2, 3, 4, 5],yo 22 (.mm false [(.t 21),(ki 600)]) [1, 2, 3, 4, 5, 6],yo 23 (.bin .add 0 (ki 1) (.t 22)) [1, 2, 3, 4, 5, 6, 7],xm 24 0,xm 25 4,yo 26 (.iaddr 5 (.t 24) (.t 25)) [9, 10],yo 27 (.faddr 4 (.t 26)) [9, 10, 11],yo 28 (.load false 1 (.t 27)) [9, 10, 11, 12],yo 29 (.len 0 (.t 28)) [9, 10, 11, 12, 13],yo 30 (.bin .quo 0 (.t 29) (ki 8)) [9, 10, 11, 12, 13, 14],yo 31 (.mm false [(.t 30),(ki 600)]) [9, 10, 11, 12, 13, 14, 15],yo 32 (.bin .add 0 (.t 23) (.t 31)) [1, 2, 3, 4, 5, 6, 7, 8, 9, 10, 11, 12, 13, 14, 15, 16],yo 33 (.bin .add 0 (.t 15) (.t 32)) [0, 1, 2, 3, 4, 5, 6, 7, 8, 9, 10, 11, 12, 13, 14, 15, 16, 17],ym 3 33 (rng 0 19)] (rng 15 19)))
(.reg [xm 13 4,xo 14 (.bin .add 0 (.t 13) (ki 1)),xm 4 14] [13,14]))))))
(.seq (.reg [xm 34 3,xo 35 (.bin .gtr 0 (.t 34) (ki 600)),xm 2 35] [34,35])
.ret))))
/-- caesura/caesurakeep.LargeTree -/
def fn16 : AFn := ⟨1, 36, c16, [(.t 2)], 0⟩
theorem fn16_body : fn16.body = c16 := rfl
theorem fn16_res : fn16.res = [(.t 2)] := rfl
theorem fn16_keep : fn16.keep = 0 := rfl
def c18 : ACode :=
(.seq (.reg [xo 2 (.anil 48 5)] [])
(.seq (.reg [xo 3 (.anil 48 5)] [])
(.seq (.seq (.reg [xo 4 (.mov (ki 0))] [])
(.block 0 (.loop false (.seq (.seq (.reg [xm 6 4,xm 7 0,xo 8 (.len 1 (.t 7)),xo 9 (.bin .lss 0 (.t 6) (.t 8))] [6,7,8])
(.cond (.t 9) [9] .skip (.exit 0)))
(.seq (.block 1 (.seq (.reg [xm 12 0,xm 13 4,xo 14 (.iaddr 5 (.t 12) (.t 13)),xo 15 (.load true 5 (.t 14)),⟨(some 5), none, .new [(.int .i64 0),(.int .i64 0),(.int .i64 0),(.list 2 []),(.str ⟨#[]⟩)], []⟩,xn (.store false 5 (.t 5) (.t 15))] (rng 12 4))
(.seq (.reg [xo 16 (.mkl 70 2 [(.int .i64 0),(.int .i64 0)] 0 [] false),xo 17 (.faddr 3 (.t 5)),xo 18 (.load false 1 (.t 17)),xo 19 (.app 70 2 16 (.t 16) (.t 18)),xo 20 (.faddr 3 (.t 5)),xn (.store false 1 (.t 20) (.t 19))] (rng 16 5))
(.reg [xm 21 3,xo 22 (.load true 5 (.t 5)),⟨(some 23), none, .mkl 48 5 [(.int .i64 0),(.int .i64 0),(.int .i64 0),(.list 2 []),(.str ⟨#[]⟩)] 1 [(0, (.t 22))] false, []⟩,xo 24 (.app 48 5 64 (.t 21) (.t 23)),xm 3 24] (rng 21 4)))))
(.reg [xm 10 4,xo 11 (.bin .add 0 (.t 10) (ki 1)),xm 4 11] [10,11]))))))
(.seq (.reg [xm 25 3,xm 2 25] [25])
.ret))))
/-- caesura/caesurakeep.OwnTree -/
def fn18 : AFn := ⟨1, 26, c18, [(.t 2)], 0⟩
theorem fn18_body : fn18.body = c18 := rfl
theorem fn18_res : fn18.res = [(.t 2)] := rfl
theorem fn18_keep : fn18.keep = 0 := rfl
def c19 : ACode :=
(.seq (.reg [xo 4 (.anil 48 5),xo 5 (.mov kf)] [])
(.seq (.reg [xm 6 0,xm 7 1,xo 8 (.call 67 [(true, (ki 3)),(true, (.t 6)),(true, (.t 7))]),xo 9 (.ext (.t 8) 0),xo 10 (.ext (.t 8) 1),xm 4 9,xm 5 10] (rng 6 5))
.ret))
/-- caesura/tree.Cat -/
def fn19 : AFn := ⟨2, 11, c19, [(.t 4),(.t 5)], 0⟩
theorem fn19_body : fn19.body = c19 := rfl
theorem fn19_res : fn19.res = [(.t 4), (.t 5)] := rfl
theorem fn19_keep : fn19.keep = 0 := rfl
def c20 : ACode :=
(.seq (.reg [xo 4 (.anil 48 5),xo 5 (.mov kf)] [])
(.seq (.reg [xm 6 0,xm 7 1,xo 8 (.call 67 [(true, (ki 4)),(true, (.t 6)),(true, (.t 7))]),xo 9 (.ext (.t 8) 0),xo 10 (.ext (.t 8) 1),xm 4 9,xm 5 10] (rng 6 5))
.ret))
/-- caesura/tree.Alt -/
def fn20 : AFn := ⟨2, 11, c20, [(.t 4),(.t 5)], 0⟩
theorem fn20_body : fn20.body = c20 := rfl
theorem fn20_res : fn20.res = [(.t 4), (.t 5)] := rfl
theorem fn20_keep : fn20.keep = 0 := rfl
def c21 : ACode :=
(.seq (.reg [xo 2 (.anil 48 5),xo 3 (.mov kf)] [])
(.seq (.seq (.reg [xm 4 0,xo 5 (.call 29 [(true, (.t 4))]),xo 6 (.un .not (.t 5)),xm 7 6,xf 8 7 (.mov (.t 0)),xf 9 7 (.len 1 (.t 8)),xf 10 7 (.bin .add 0 (.t 9) (ki 1)),xf 11 7 (.bin .gtr 0 (.t 10) (ki 40000)),xo 12 (.pick (.t 7) kt (.t 11))] (rng 4 8))
(.cond (.t 12) [12] (.seq (.reg [xo 2 (.anil 48 5),xo 3 (.mov kf)] [])
.ret) .skip))
(.seq (.reg [xm 13 0,xo 14 (.call 68 [(true, (.t 13)),(true, (ki 0))]),xm 15 0,xo 16 (.len 1 (.t 15)),xo 17 (.bin .sub 0 (.t 16) (ki 1)),⟨(some 18), none, .agg [(.int .i64 0),(.int .i64 0),(.int .i64 0),(.list 2 []),(.str ⟨#[]⟩)] [(0, 1, (ki 5)),(1, 1, (.t 17))], []⟩,⟨(some 19), none, .mkl 48 5 [(.int .i64 0),(.int .i64 0),(.int .i64 0),(.list 2 []),(.str ⟨#[]⟩)] 1 [(0, (.t 18))] false, []⟩,xo 20 (.app 48 5 64 (.t 14) (.t 19)),xm 2 20,xo 3 (.mov kt)] (rng 13 8))
.ret)))
/-- caesura/tree.Star -/
def fn21 : AFn := ⟨1, 21, c21, [(.t 2),(.t 3)], 0⟩
theorem fn21_body : fn21.body = c21 := rfl
theorem fn21_res : fn21.res = [(.t 2), (.t 3)] := rfl
theorem fn21_keep : fn21.keep = 0 := rfl
def c22 : ACode :=
(.seq (.reg [xo 4 (.anil 48 5),xo 5 (.mov kf)] [])
(.seq (.seq (.reg [xm 6 0,xo 7 (.len 1 (.t 6)),xo 8 (.bin .eql 0 (.t 7) (ki 0)),xm 9 8,xf 10 9 (.mov (.t 0)),xf 11 9 (.call 56 [(true, (.t 10))]),xf 12 9 (.un .not (.t 11)),xo 13 (.pick (.t 9) kt (.t 12))] (rng 6 7))
(.cond (.t 13) [13] (.seq (.reg [xo 4 (.anil 48 5),xo 5 (.mov kf)] [])
.ret) .skip))
(.seq (.reg [xm 14 0,xo 15 (.call 69 [(true, (.t 14))]),xm 16 1,⟨(some 17), none, .agg [(.int .i64 0),(.int .i64 0),(.int .i64 0),(.list 2 []),(.str ⟨#[]⟩)] [(0, 1, (ki 2)),(3, 1, (.t 15)),(4, 1, (.t 16))], []⟩,⟨(some 18), none, .mkl 48 5 [(.int .i64 0),(.int .i64 0),(.int .i64 0),(.list 2 []),(.str ⟨#[]⟩)] 1 [(0, (.t 17))] false, []⟩,xm 4 18,xo 5 (.mov kt)] (rng 14 5))
.ret)))
/-- caesura/tree.One -/
def fn22 : AFn := ⟨2, 19, c22, [(.t 4),(.t 5)], 0⟩
theorem fn22_body : fn22.body = c22 := rfl
theorem fn22_res : fn22.res = [(.t 4), (.t 5)] := rfl
theorem fn22_keep : fn22.keep = 0 := rfl
def c23 : ACode :=
(.seq (.reg [xo 2 (.anil 48 5),xo 3 (.anil 48 5),xo 4 (.mov kf)] [])
(.seq (.seq (.reg [xm 6 0,xo 7 (.call 29 [(true, (.t 6))]),xo 8 (.un .not (.t 7))] [6,7])
(.cond (.t 8) [8] (.seq (.reg [xo 2 (.anil 48 5),xo 3 (.anil 48 5),xo 4 (.mov kf)] [])
.ret) .skip))
(.seq (.seq (.reg [xm 9 0,xm 10 0,xo 11 (.len 1 (.t 10)),xo 12 (.bin .sub 0 (.t 11) (ki 1)),xo 13 (.iaddr 5 (.t 9) (.t 12)),xo 14 (.load true 5 (.t 13)),⟨(some 5), none, .new [(.int .i64 0),(.int .i64 0),(.int .i64 0),(.list 2 []),(.str ⟨#[]⟩)], []⟩,xn (.store false 5 (.t 5) (.t 14))] (rng 9 6))
(.seq (.reg [xo 15 (.faddr 0 (.t 5)),xo 16 (.load false 1 (.t 15))] [15])
(.block 0 (.seq (.seq (.reg [xo 18 (.bin .eql 0 (.t 16) (ki 3)),xm 17 18] [18])
(.cond (.t 17) [] .skip (.reg [xo 19 (.bin .eql 0 (.t 16) (ki 4)),xm 17 19] [19])))
(.cond (.t 17) [] (.seq (.dreg [xm 20 0,xo 21 (.faddr 1 (.t 5)),yo 22 (.load false 1 (.t 21)) [1],yo 23 (.bin .add 0 (.t 22) (ki 1)) [1, 2],yo 24 (.slc 5 (.t 20) none (some (.t 23)) none) [0, 1, 2, 3],yo 25 (.call 100068 [(true, (.t 24)),(true, (ki 0))]) [0, 1, 2, 3, 4],xm 26 0,xo 27 (.faddr 1 (.t 5)),yo 28 (.load false 1 (.t 27)) [7],yo 29 (.bin .add 0 (.t 28) (ki 1)) [7, 8],xo 30 (.faddr 2 (.t 5)),yo 31 (.load false 1 (.t 30)) [10],yo 32 (.bin .add 0 (.t 31) (ki 1)) [10, 11],yo 33 (.slc 5 (.t 26) (some (.t 29)) (some (.t 32)) none) [6, 7, 8, 9, 10, 11, 12],xo 34 (.faddr 1 (.t 5)),yo 35 (.load false 1 (.t 34)) [14],yo 36 (.un .neg (.t 35)) [14, 15],yo 37 (.bin .sub 0 (.t 36) (ki 1)) [14, 15, 16],yo 38 (.call 100068 [(true, (.t 33)),(true, (.t 37))]) [0, 1, 2, 3, 4, 5, 6, 7, 8, 9, 10, 11, 12, 13, 14, 15, 16, 17],ym 2 25 [0, 1, 2, 3, 4, 5, 6, 7, 8, 9, 10, 11, 12, 13, 14, 15, 16, 17, 18],ym 3 38 [0, 1, 2, 3, 4, 5, 6, 7, 8, 9, 10, 11, 12, 13, 14, 15, 16, 17, 18, 19],yo 4 (.mov kt) (rng 0 21)] (rng 20 19))
.ret) (.seq (.reg [xo 40 (.bin .eql 0 (.t 16) (ki 5)),xm 39 40] [40])
(.cond (.t 39) [39] (.seq (.reg [xm 41 0,xo 42 (.faddr 1 (.t 5)),xo 43 (.load false 1 (.t 42)),xo 44 (.bin .add 0 (.t 43) (ki 1)),xo 45 (.slc 5 (.t 41) none (some (.t 44)) none),xo 46 (.call 100068 [(true, (.t 45)),(true, (ki 0))]),xm 2 46,xo 3 (.anil 48 5),xo 4 (.mov kt)] (rng 41 6))
.ret) .skip)))))))
(.seq (.reg [xo 2 (.anil 48 5),xo 3 (.anil 48 5),xo 4 (.mov kf)] [])
.ret))))
/-- caesura/tree.Parts -/
def fn23 : AFn := ⟨1, 47, c23, [(.t 2),(.t 3),(.t 4)], 0⟩
theorem fn23_body : fn23.body = c23 := rfl
theorem fn23_res : fn23.res = [(.t 2), (.t 3), (.t 4)] := rfl
theorem fn23_keep : fn23.keep = 0 := rfl
def c24 : ACode :=
(.seq (.reg [xo 2 (.new [(.list 5 []),(.list 5 []),(.bool false)])] [])
(.seq (.seq (.reg [xm 5 0,xo 6 (.call 30 [(true, (.t 5))]),xo 7 (.un .not (.t 6))] [5,6])
(.cond (.t 7) [7] (.seq (.reg [xo 8 (.agg [(.list 5 []),(.list 5 []),(.bool false)] []),xn (.store false 3 (.t 2) (.t 8))] [8])
.ret) .skip))
(.seq (.reg [xm 9 0,xo 10 (.len 1 (.t 9)),xo 11 (.bin .sub 0 (.t 10) (ki 1)),xm 3 11] [9,10,11])
(.seq (.reg [xm 12 0,xm 13 3,xo 14 (.iaddr 5 (.t 12) (.t 13)),xo 15 (.load true 5 (.t 14)),⟨(some 4), none, .new [(.int .i64 0),(.int .i64 0),(.int .i64 0),(.list 2 []),(.str ⟨#[]⟩)], []⟩,xn (.store false 5 (.t 4) (.t 15))] (rng 12 4))
(.seq (.seq (.reg [xo 16 (.faddr 0 (.t 4)),xo 17 (.load false 1 (.t 16))] [16])
(.block 0 (.seq (.reg [xo 19 (.bin .eql 0 (.t 17) (ki 5)),xm 18 19] [19])
(.cond (.t 18) [18] (.seq (.reg [xm 20 0,xo 21 (.faddr 1 (.t 4)),xo 22 (.load false 1 (.t 21)),xo 23 (.call 70 [(true, (.t 20)),(true, (ki 0)),(true, (.t 22))]),xo 24 (.agg [(.list 5 []),(.list 5 []),(.bool false)] [(0, 1, (.t 23)),(2, 1, kt)]),xn (.store false 3 (.t 2) (.t 24))] (rng 20 5))
.ret) (.seq (.seq (.reg [xo 26 (.bin .eql 0 (.t 17) (ki 3)),xm 25 26] [26])
(.cond (.t 25) [] .skip (.reg [xo 27 (.bin .eql 0 (.t 17) (ki 4)),xm 25 27] [27])))
(.cond (.t 25) [] (.seq (.dreg [xm 28 0,xo 29 (.faddr 1 (.t 4)),yo 30 (.load false 1 (.t 29)) [1],yo 31 (.call 70 [(true, (.t 28)),(true, (ki 0)),(true, (.t 30))]) [0, 1, 2],xm 32 0,xo 33 (.faddr 1 (.t 4)),yo 34 (.load false 1 (.t 33)) [5],yo 35 (.bin .add 0 (.t 34) (ki 1)) [5, 6],xo 36 (.faddr 2 (.t 4)),yo 37 (.load false 1 (.t 36)) [8],yo 38 (.call 70 [(true, (.t 32)),(true, (.t 35)),(true, (.t 37))]) [0, 1, 2, 3, 4, 5, 6, 7, 8, 9],yo 39 (.agg [(.list 5 []),(.list 5 []),(.bool false)] [(0, 1, (.t 31)),(1, 1, (.t 38)),(2, 1, kt)]) [0, 1, 2, 3, 4, 5, 6, 7, 8, 9, 10],⟨none, none, .store false 3 (.t 2) (.t 39), [0, 1, 2, 3, 4, 5, 6, 7, 8, 9, 10, 11]⟩] (rng 28 12))
.ret) .skip))))))
(.seq (.reg [xo 40 (.agg [(.list 5 []),(.list 5 []),(.bool false)] []),xn (.store false 3 (.t 2) (.t 40))] [40])
.ret))))))
/-- caesura/caesuraref11.Parts -/
def fn24 : AFn := ⟨1, 41, c24, [(.c 2 true 3)], 0⟩
theorem fn24_body : fn24.body = c24 := rfl
theorem fn24_res : fn24.res = [(.c 2 true 3)] := rfl
theorem fn24_keep : fn24.keep = 0 := rfl
def c25 : ACode :=
(.seq (.reg [xo 6 (.anil 48 5)] [])
(.seq (.seq (.reg [xm 10 1,xo 11 (.call 30 [(true, (.t 10))]),xo 12 (.un .not (.t 11)),xm 13 12,xf 14 13 (.mov (.t 2)),xf 15 13 (.call 30 [(true, (.t 14))]),xf 16 13 (.un .not (.t 15)),xo 17 (.pick (.t 13) kt (.t 16)),xm 18 17,xf 19 18 (.mov (.t 1)),xf 20 18 (.len 1 (.t 19)),xf 21 18 (.mov (.t 2)),xf 22 18 (.len 1 (.t 21)),xf 23 18 (.bin .add 0 (.t 20) (.t 22)),xf 24 18 (.bin .add 0 (.t 23) (ki 1)),xf 25 18 (.bin .gtr 0 (.t 24) (ki 40000)),xo 26 (.pick (.t 18) kt (.t 25))] (rng 10 16))
(.cond (.t 26) [26] (.seq (.reg [xo 6 (.anil 48 5)] [])
.ret) .skip))
(.seq (.reg [xm 27 1,xm 28 1,xo 29 (.len 1 (.t 28)),xo 30 (.bin .sub 0 (.t 29) (ki 1)),xo 31 (.call 70 [(true, (.t 27)),(true, (ki 0)),(true, (.t 30))]),xm 7 31] (rng 27 5))
(.seq (.seq (.reg [xo 8 (.mov (ki 0))] [])
(.block 0 (.loop false (.seq (.seq (.reg [xm 32 8,xm 33 2,xo 34 (.len 1 (.t 33)),xo 35 (.bin .lss 0 (.t 32) (.t 34))] [32,33,34])
(.cond (.t 35) [35] .skip (.exit 0)))
(.seq (.block 1 (.seq (.reg [xm 38 2,xm 39 8,xo 40 (.iaddr 5 (.t 38) (.t 39)),xo 41 (.load true 5 (.t 40)),⟨(some 9), none, .new [(.int .i64 0),(.int .i64 0),(.int .i64 0),(.list 2 []),(.str ⟨#[]⟩)], []⟩,xn (.store false 5 (.t 9) (.t 41))] (rng 38 4))
(.seq (.seq (.reg [xo 42 (.faddr 0 (.t 9)),xo 43 (.load false 1 (.t 42))] [42])
(.block 2 (.seq (.reg [xo 45 (.bin .eql 0 (.t 43) (ki 5)),xm 44 45] [45])
(.cond (.t 44) [44] (.reg [xo 46 (.faddr 1 (.t 9)),xo 47 (.load false 1 (.t 46)),xm 48 1,xo 49 (.len 1 (.t 48)),xo 50 (.bin .add 0 (.t 47) (.t 49)),xo 51 (.faddr 1 (.t 9)),xn (.store false 1 (.t 51) (.t 50))] (rng 46 6)) (.seq (.seq (.reg [xo 53 (.bin .eql 0 (.t 43) (ki 3)),xm 52 53] [53])
(.cond (.t 52) [] .skip (.reg [xo 54 (.bin .eql 0 (.t 43) (ki 4)),xm 52 54] [54])))
(.cond (.t 52) [] (.seq (.reg [xo 55 (.faddr 1 (.t 9)),xo 56 (.load false 1 (.t 55)),xm 57 1,xo 58 (.len 1 (.t 57)),xo 59 (.bin .add 0 (.t 56) (.t 58)),xo 60 (.faddr 1 (.t 9)),xn (.store false 1 (.t 60) (.t 59))] (rng 55 6))
(.reg [xo 61 (.faddr 2 (.t 9)),xo 62 (.load false 1 (.t 61)),xm 63 1,xo 64 (.len 1 (.t 63)),xo 65 (.bin .add 0 (.t 62) (.t 64)),xo 66 (.faddr 2 (.t 9)),xn (.store false 1 (.t 66) (.t 65))] (rng 61 6))) .skip))))))
(.seq (.reg [xo 67 (.mkl 70 2 [(.int .i64 0),(.int .i64 0)] 0 [] false),xo 68 (.faddr 3 (.t 9)),xo 69 (.load false 1 (.t 68)),xo 70 (.app 70 2 16 (.t 67) (.t 69)),xo 71 (.faddr 3 (.t 9)),xn (.store false 1 (.t 71) (.t 70))] (rng 67 5))
(.reg [xm 72 7,xo 73 (.load true 5 (.t 9)),⟨(some 74), none, .mkl 48 5 [(.int .i64 0),(.int .i64 0),(.int .i64 0),(.list 2 []),(.str ⟨#[]⟩)] 1 [(0, (.t 73))] false, []⟩,xo 75 (.app 48 5 64 (.t 72) (.t 74)),xm 7 75] (rng 72 4))))))
(.reg [xm 36 8,xo 37 (.bin .add 0 (.t 36) (ki 1)),xm 8 37] [36,37]))))))
(.seq (.reg [xm 76 7,xm 77 0,xm 78 1,xo 79 (.len 1 (.t 78)),xo 80 (.bin .sub 0 (.t 79) (ki 1)),xm 81 1,xo 82 (.len 1 (.t 81)),xm 83 2,xo 84 (.len 1 (.t 83)),xo 85 (.bin .add 0 (.t 82) (.t 84)),xo 86 (.bin .sub 0 (.t 85) (ki 1)),⟨(some 87), none, .agg [(.int .i64 0),(.int .i64 0),(.int .i64 0),(.list 2 []),(.str ⟨#[]⟩)] [(0, 1, (.t 77)),(1, 1, (.t 80)),(2, 1, (.t 86))], []⟩,⟨(some 88), none, .mkl 48 5 [(.int .i64 0),(.int .i64 0),(.int .i64 0),(.list 2 []),(.str ⟨#[]⟩)] 1 [(0, (.t 87))] false, []⟩,xo 89 (.app 48 5 64 (.t 76) (.t 88)),xm 6 89] (rng 76 14))
.ret)))))
/-- caesura/caesuraref11.Join -/
def fn25 : AFn := ⟨3, 90, c25, [(.t 6)], 0⟩
theorem fn25_body : fn25.body = c25 := rfl
theorem fn25_res : fn25.res = [(.t 6)] := rfl
theorem fn25_keep : fn25.keep = 0 := rfl
def c26 : ACode :=
(.seq (.reg [xo 2 (.anil 48 5)] [])
(.seq (.seq (.reg [xm 3 0,xo 4 (.call 30 [(true, (.t 3))]),xo 5 (.un .not (.t 4)),xm 6 5,xf 7 6 (.mov (.t 0)),xf 8 6 (.len 1 (.t 7)),xf 9 6 (.bin .geq 0 (.t 8) (ki 40000)),xo 10 (.pick (.t 6) kt (.t 9))] (rng 3 7))
(.cond (.t 10) [10] (.seq (.reg [xo 2 (.anil 48 5)] [])
.ret) .skip))
(.seq (.reg [xm 11 0,xm 12 0,xo 13 (.len 1 (.t 12)),xo 14 (.bin .sub 0 (.t 13) (ki 1)),xo 15 (.call 70 [(true, (.t 11)),(true, (ki 0)),(true, (.t 14))]),xm 16 0,xo 17 (.len 1 (.t 16)),xo 18 (.bin .sub 0 (.t 17) (ki 1)),⟨(some 19), none, .agg [(.int .i64 0),(.int .i64 0),(.int .i64 0),(.list 2 []),(.str ⟨#[]⟩)] [(0, 1, (ki 5)),(1, 1, (.t 18))], []⟩,⟨(some 20), none, .mkl 48 5 [(.int .i64 0),(.int .i64 0),(.int .i64 0),(.list 2 []),(.str ⟨#[]⟩)] 1 [(0, (.t 19))] false, []⟩,xo 21 (.app 48 5 64 (.t 15) (.t 20)),xm 2 21] (rng 11 11))
.ret)))
/-- caesura/caesuraref11.Star -/
def fn26 : AFn := ⟨1, 22, c26, [(.t 2)], 0⟩
theorem fn26_body : fn26.body = c26 := rfl
theorem fn26_res : fn26.res = [(.t 2)] := rfl
theorem fn26_keep : fn26.keep = 0 := rfl
def c28 : ACode :=
(.seq (.reg [xo 4 (.mov kf)] [])
(.seq (.seq (.reg [xm 8 0,xo 9 (.len 1 (.t 8)),xm 10 1,xo 11 (.len 1 (.t 10)),xo 12 (.bin .neq 0 (.t 9) (.t 11))] (rng 8 4))
(.cond (.t 12) [12] (.seq (.reg [xo 4 (.mov kf)] [])
.ret) .skip))
(.seq (.seq (.reg [xo 5 (.mov (ki 0))] [])
(.block 0 (.loop false (.seq (.seq (.reg [xm 13 5,xm 14 0,xo 15 (.len 1 (.t 14)),xo 16 (.bin .lss 0 (.t 13) (.t 15))] [13,14,15])
(.cond (.t 16) [16] .skip (.exit 0)))
(.seq (.block 1 (.seq (.dreg [xm 19 0,xm 20 5,yo 21 (.iaddr 5 (.t 19) (.t 20)) [0, 1],yo 22 (.load true 5 (.t 21)) [0, 1, 2],xm 23 1,xm 24 5,yo 25 (.iaddr 5 (.t 23) (.t 24)) [4, 5],yo 26 (.load true 5 (.t 25)) [4, 5, 6],⟨(some 6), none, .new [(.int .i64 0),(.int .i64 0),(.int .i64 0),(.list 2 []),(.str ⟨#[]⟩)], []⟩,⟨(some 7), none, .new [(.int .i64 0),(.int .i64 0),(.int .i64 0),(.list 2 []),(.str ⟨#[]⟩)], []⟩,⟨none, none, .store false 5 (.t 6) (.t 22), [0, 1, 2, 3, 8, 9]⟩,⟨none, none, .store false 5 (.t 7) (.t 26), [0, 1, 2, 3, 4, 5, 6, 7, 8, 9, 10]⟩] (rng 19 8))
(.seq (.reg [xo 27 (.faddr 0 (.t 6)),xo 28 (.load false 1 (.t 27)),xo 29 (.faddr 0 (.t 7)),xo 30 (.load false 1 (.t 29)),xo 31 (.bin .neq 0 (.t 28) (.t 30)),xm 32 31,xf 33 32 (.faddr 1 (.t 6)),xf 34 32 (.load false 1 (.t 33)),xf 35 32 (.faddr 1 (.t 7)),xf 36 32 (.load false 1 (.t 35)),xf 37 32 (.bin .neq 0 (.t 34) (.t 36)),xo 38 (.pick (.t 32) kt (.t 37)),xm 39 38,xf 40 39 (.faddr 2 (.t 6)),xf 41 39 (.load false 1 (.t 40)),xf 42 39 (.faddr 2 (.t 7)),xf 43 39 (.load false 1 (.t 42)),xf 44 39 (.bin .neq 0 (.t 41) (.t 43)),xo 45 (.pick (.t 39) kt (.t 44)),xm 46 45,xf 47 46 (.faddr 4 (.t 6)),xf 48 46 (.load false 1 (.t 47)),xf 49 46 (.faddr 4 (.t 7)),xf 50 46 (.load false 1 (.t 49)),xf 51 46 (.bin .neq 0 (.t 48) (.t 50)),xo 52 (.pick (.t 46) kt (.t 51)),xm 53 52,xf 54 53 (.faddr 3 (.t 6)),xf 55 53 (.load false 1 (.t 54)),xf 56 53 (.faddr 3 (.t 7)),xf 57 53 (.load false 1 (.t 56)),xf 58 53 (.call 63 [(true, (.t 55)),(true, (.t 57))]),xf 59 53 (.un .not (.t 58)),xo 60 (.pick (.t 53) kt (.t 59))] (rng 27 33))
(.cond (.t 60) [60] (.seq (.reg [xo 4 (.mov kf)] [])
.ret) .skip))))
(.reg [xm 17 5,xo 18 (.bin .add 0 (.t 17) (ki 1)),xm 5 18] [17,18]))))))
(.seq (.reg [xo 4 (.mov kt)] [])
.ret))))
/-- caesura/caesurakeep.Tree -/
def fn28 : AFn := ⟨2, 61, c28, [(.t 4)], 0⟩
theorem fn28_body : fn28.body = c28 := rfl
theorem fn28_res : fn28.res = [(.t 4)] := rfl
theorem fn28_keep : fn28.keep = 0 := rfl
def c29 : ACode :=
(.seq (.reg [xo 2 (.mov kf)] [])
(.seq (.seq (.reg [xm 5 0,xo 6 (.len 1 (.t 5)),xo 7 (.bin .lss 0 (.t 6) (ki 1)),xm 8 7,xf 9 8 (.mov (.t 0)),xf 10 8 (.len 1 (.t 9)),xf 11 8 (.bin .gtr 0 (.t 10) (ki 40000)),xo 12 (.pick (.t 8) kt (.t 11))] (rng 5 7))
(.cond (.t 12) [12] (.seq (.reg [xo 2 (.mov kf)] [])
.ret) .skip))
(.seq (.reg [xm 14 0,xo 15 (.call 71 [(true, (.t 14))]),xm 13 15,xo 16 (.ext (.t 13) 0),xo 17 (.ext (.t 13) 1),xm 3 16,xm 4 17] (rng 13 5))
(.seq (.reg [xm 18 4,xm 19 18,xt 20 19 (.mov (.t 3)),xt 21 19 (.mov (.t 0)),xt 22 19 (.len 1 (.t 21)),xt 23 19 (.bin .sub 0 (.t 22) (ki 1)),xt 24 19 (.iaddr 1 (.t 20) (.t 23)),xt 25 19 (.load false 1 (.t 24)),xt 26 19 (.bin .eql 0 (.t 25) (ki 0)),xo 27 (.pick (.t 19) (.t 26) kf),xm 2 27] (rng 18 10))
.ret))))
/-- caesura/tree.Good -/
def fn29 : AFn := ⟨1, 28, c29, [(.t 2)], 0⟩
theorem fn29_body : fn29.body = c29 := rfl
theorem fn29_res : fn29.res = [(.t 2)] := rfl
theorem fn29_keep : fn29.keep = 0 := rfl
def c30 : ACode :=
(.seq (.reg [xo 2 (.mov kf)] [])
(.seq (.seq (.reg [xm 4 0,xo 5 (.len 1 (.t 4)),xo 6 (.bin .lss 0 (.t 5) (ki 1)),xm 7 6,xf 8 7 (.mov (.t 0)),xf 9 7 (.len 1 (.t 8)),xf 10 7 (.bin .gtr 0 (.t 9) (ki 40000)),xo 11 (.pick (.t 7) kt (.t 10))] (rng 4 7))
(.cond (.t 11) [11] (.seq (.reg [xo 2 (.mov kf)] [])
.ret) .skip))
(.seq (.reg [xm 12 0,xo 13 (.call 36 [(true, (.t 12))]),xm 3 13] [12,13])
(.seq (.reg [xm 14 3,xo 15 (.len 1 (.t 14)),xm 16 0,xo 17 (.len 1 (.t 16)),xo 18 (.bin .eql 0 (.t 15) (.t 17)),xm 19 18,xt 20 19 (.mov (.t 3)),xt 21 19 (.mov (.t 0)),xt 22 19 (.len 1 (.t 21)),xt 23 19 (.bin .sub 0 (.t 22) (ki 1)),xt 24 19 (.iaddr 1 (.t 20) (.t 23)),xt 25 19 (.load false 1 (.t 24)),xt 26 19 (.bin .eql 0 (.t 25) (ki 0)),xo 27 (.pick (.t 19) (.t 26) kf),xm 2 27] (rng 14 14))
.ret))))
/-- caesura/caesuraref11.Good -/
def fn30 : AFn := ⟨1, 28, c30, [(.t 2)], 0⟩
theorem fn30_body : fn30.body = c30 := rfl
theorem fn30_res : fn30.res = [(.t 2)] := rfl
theorem fn30_keep : fn30.keep = 0 := rfl
def c31 : ACode :=
(.seq (.reg [xo 4 (.mov kf)] [])
(.seq (.seq (.reg [xm 6 0,xo 7 (.call 29 [(true, (.t 6))]),xo 8 (.un .not (.t 7))] [6,7])
(.cond (.t 8) [8] (.seq (.reg [xo 4 (.mov kf)] [])
.ret) .skip))
(.seq (.reg [xm 9 0,xm 10 1,xo 11 .mkm,xo 12 (.agg [(.list 5 []),(.list 1 []), .nilm] [(0, 1, (.t 9)),(1, 1, (.t 10)),(2, 1, (.t 11))]),xo 13 (.box (.t 12)),xm 5 13] (rng 9 5))
(.seq (.reg [xm 14 5,xm 15 0,xo 16 (.len 1 (.t 15)),xo 17 (.bin .sub 0 (.t 16) (ki 1)),xm 18 1,xo 19 (.len 1 (.t 18)),xo 20 (.call 72 [(false, (.t 14)),(true, (.t 17)),(true, (ki 0)),(true, (.t 19))]),xm 4 20] (rng 14 7))
.ret))))
/-- caesura/tree.Takes -/
def fn31 : AFn := ⟨2, 21, c31, [(.t 4)], 0⟩
theorem fn31_body : fn31.body = c31 := rfl
theorem fn31_res : fn31.res = [(.t 4)] := rfl
theorem fn31_keep : fn31.keep = 0 := rfl
def c33 : ACode :=
(.seq (.reg [xo 4 (.mov kf)] [])
(.seq (.reg [xm 5 0,xm 6 1,xo 7 (.call 74 [(true, (.t 5)),(true, (.t 6)),(false, (.k (.func 75 [])))]),xm 4 7] [5,6,7])
.ret))
/-- caesura/tree.Same -/
def fn33 : AFn := ⟨2, 8, c33, [(.t 4)], 0⟩
theorem fn33_body : fn33.body = c33 := rfl
theorem fn33_res : fn33.res = [(.t 4)] := rfl
theorem fn33_keep : fn33.keep = 0 := rfl
def c34 : ACode :=
(.seq (.reg [xo 2 (.anil 48 5)] [])
(.seq (.seq (.reg [xm 3 0,xo 4 (.bin .neq 0 (.t 3) (ki 1))] [3])
(.cond (.t 4) [4] (.reg [xo 0 (.mov (ki 0))] []) .skip))
(.seq (.reg [xm 5 0,⟨(some 6), none, .agg [(.int .i64 0),(.int .i64 0),(.int .i64 0),(.list 2 []),(.str ⟨#[]⟩)] [(0, 1, (.t 5))], []⟩,⟨(some 7), none, .mkl 48 5 [(.int .i64 0),(.int .i64 0),(.int .i64 0),(.list 2 []),(.str ⟨#[]⟩)] 1 [(0, (.t 6))] false, []⟩,xm 2 7] [5,6,7])
.ret)))
/-- caesura/tree.Leaf -/
def fn34 : AFn := ⟨1, 8, c34, [(.t 2)], 0⟩
theorem fn34_body : fn34.body = c34 := rfl
theorem fn34_res : fn34.res = [(.t 2)] := rfl
theorem fn34_keep : fn34.keep = 0 := rfl
def c35 : ACode :=
(.seq (.reg [xo 2 (.anil 48 5)] [])
(.seq (.seq (.reg [xm 3 0,xo 4 (.bin .eql 0 (.t 3) (ki 1))] [3])
(.cond (.t 4) [4] (.seq (.reg [⟨(some 5), none, .agg [(.int .i64 0),(.int .i64 0),(.int .i64 0),(.list 2 []),(.str ⟨#[]⟩)] [(0, 1, (ki 1))], []⟩,⟨(some 6), none, .mkl 48 5 [(.int .i64 0),(.int .i64 0),(.int .i64 0),(.list 2 []),(.str ⟨#[]⟩)] 1 [(0, (.t 5))] false, []⟩,xm 2 6] [5,6])
.ret) .skip))
(.seq (.reg [⟨(some 7), none, .agg [(.int .i64 0),(.int .i64 0),(.int .i64 0),(.list 2 []),(.str ⟨#[]⟩)] [(0, 1, (ki 0))], []⟩,⟨(some 8), none, .mkl 48 5 [(.int .i64 0),(.int .i64 0),(.int .i64 0),(.list 2 []),(.str ⟨#[]⟩)] 1 [(0, (.t 7))] false, []⟩,xm 2 8] [7,8])
.ret)))
/-- caesura/caesuraref11.Leaf -/
def fn35 : AFn := ⟨1, 9, c35, [(.t 2)], 0⟩
theorem fn35_body : fn35.body = c35 := rfl
theorem fn35_res : fn35.res = [(.t 2)] := rfl
theorem fn35_keep : fn35.keep = 0 := rfl
def c36 : ACode :=
(.seq (.reg [xo 2 (.anil 3 1)] [])
(.seq (.reg [xo 3 (.anil 3 1)] [])
(.seq (.seq (.reg [xo 4 (.mov (ki 0))] [])
(.block 0 (.loop false (.seq (.seq (.reg [xm 6 4,xm 7 0,xo 8 (.len 1 (.t 7)),xo 9 (.bin .lss 0 (.t 6) (.t 8))] [6,7,8])
(.cond (.t 9) [9] .skip (.exit 0)))
(.seq (.block 1 (.seq (.reg [xm 12 0,xm 13 4,xo 14 (.iaddr 5 (.t 12) (.t 13)),xo 15 (.load true 5 (.t 14)),⟨(some 5), none, .new [(.int .i64 0),(.int .i64 0),(.int .i64 0),(.list 2 []),(.str ⟨#[]⟩)], []⟩,xn (.store false 5 (.t 5) (.t 15))] (rng 12 4))
(.seq (.seq (.reg [xo 16 (.faddr 0 (.t 5)),xo 17 (.load false 1 (.t 16)),xo 18 (.bin .neq 0 (.t 17) (ki 2)),xm 19 18,xt 20 19 (.faddr 3 (.t 5)),xt 21 19 (.load false 1 (.t 20)),xt 22 19 (.len 1 (.t 21)),xt 23 19 (.bin .gtr 0 (.t 22) (ki 0)),xt 24 19 (.mov (.t 23)),xf 25 24 (.faddr 4 (.t 5)),xf 26 24 (.load false 1 (.t 25)),⟨(some 27),(some (24, false)), .bin .neq 0 (.t 26) (.k (.str ⟨#[]⟩)), []⟩,xt 28 19 (.pick (.t 24) kt (.t 27)),xo 29 (.pick (.t 19) (.t 28) kf)] (rng 16 13))
(.cond (.t 29) [29] (.seq (.reg [xo 2 (.anil 3 1)] [])
.ret) .skip))
(.seq (.reg [xo 30 (.faddr 0 (.t 5)),xo 31 (.load false 1 (.t 30))] [30])
(.block 2 (.seq (.seq (.reg [xo 33 (.bin .eql 0 (.t 31) (ki 0)),xm 32 33] [33])
(.cond (.t 32) [] .skip (.seq (.reg [xo 34 (.bin .eql 0 (.t 31) (ki 1)),xm 32 34] [34])
(.cond (.t 32) [] .skip (.reg [xo 35 (.bin .eql 0 (.t 31) (ki 2)),xm 32 35] [35])))))
(.cond (.t 32) [] (.seq (.seq (.reg [xo 36 (.faddr 1 (.t 5)),xo 37 (.load false 1 (.t 36)),xo 38 (.bin .neq 0 (.t 37) (ki 0)),xm 39 38,xf 40 39 (.faddr 2 (.t 5)),xf 41 39 (.load false 1 (.t 40)),xf 42 39 (.bin .neq 0 (.t 41) (ki 0)),xo 43 (.pick (.t 39) kt (.t 42)),xm 44 43,xf 45 44 (.faddr 0 (.t 5)),xf 46 44 (.load false 1 (.t 45)),xf 47 44 (.bin .eql 0 (.t 46) (ki 2)),xf 48 44 (.mov (.t 47)),xt 49 48 (.faddr 3 (.t 5)),xt 50 48 (.load false 1 (.t 49)),xt 51 48 (.len 1 (.t 50)),xt 52 48 (.bin .eql 0 (.t 51) (ki 0)),xt 53 48 (.mov (.t 52)),xf 54 53 (.faddr 3 (.t 5)),xf 55 53 (.load false 1 (.t 54)),xf 56 53 (.call 57 [(true, (.t 55))]),xf 57 53 (.un .not (.t 56)),xt 58 48 (.pick (.t 53) kt (.t 57)),xf 59 44 (.pick (.t 48) (.t 58) kf),xo 60 (.pick (.t 44) kt (.t 59))] (rng 36 24))
(.cond (.t 60) [60] (.seq (.reg [xo 2 (.anil 3 1)] [])
.ret) .skip))
(.reg [xm 61 3,xm 62 4,xo 63 (.mkl 3 1 [(.int .i64 0)] 1 [(0, (.t 62))] false),xo 64 (.app 3 1 8 (.t 61) (.t 63)),xm 3 64] (rng 61 4))) (.seq (.reg [xo 66 (.bin .eql 0 (.t 31) (ki 5)),xm 65 66] [66])
(.cond (.t 65) [65] (.seq (.seq (.reg [xm 67 4,xo 68 (.bin .eql 0 (.t 67) (ki 0)),xm 69 68,xf 70 69 (.faddr 1 (.t 5)),xf 71 69 (.load false 1 (.t 70)),xf 72 69 (.mov (.t 4)),xf 73 69 (.bin .sub 0 (.t 72) (ki 1)),xf 74 69 (.bin .neq 0 (.t 71) (.t 73)),xo 75 (.pick (.t 69) kt (.t 74)),xm 76 75,xf 77 76 (.faddr 2 (.t 5)),xf 78 76 (.load false 1 (.t 77)),xf 79 76 (.bin .neq 0 (.t 78) (ki 0)),xo 80 (.pick (.t 76) kt (.t 79))] (rng 67 13))
(.cond (.t 80) [80] (.seq (.reg [xo 2 (.anil 3 1)] [])
.ret) .skip))
(.reg [xm 81 3,xm 82 3,xm 83 4,xo 84 (.bin .sub 0 (.t 83) (ki 1)),xo 85 (.iaddr 1 (.t 82) (.t 84)),xo 86 (.load false 1 (.t 85)),xo 87 (.mkl 3 1 [(.int .i64 0)] 1 [(0, (.t 86))] false),xo 88 (.app 3 1 8 (.t 81) (.t 87)),xm 3 88] (rng 81 8))) (.seq (.seq (.reg [xo 90 (.bin .eql 0 (.t 31) (ki 3)),xm 89 90] [90])
(.cond (.t 89) [] .skip (.reg [xo 91 (.bin .eql 0 (.t 31) (ki 4)),xm 89 91] [91])))
(.cond (.t 89) [] (.seq (.seq (.dreg [xm 92 4,yo 93 (.bin .lss 0 (.t 92) (ki 2)) [0],ym 94 93 [0, 1],yf 95 94 (.faddr 2 (.t 5)) [0, 1, 2],yf 96 94 (.load false 1 (.t 95)) [0, 1, 2, 3],yf 97 94 (.mov (.t 4)) [0, 1, 2],yf 98 94 (.bin .sub 0 (.t 97) (ki 1)) [0, 1, 2, 5],yf 99 94 (.bin .neq 0 (.t 96) (.t 98)) [0, 1, 2, 3, 4, 5, 6],yo 100 (.pick (.t 94) kt (.t 99)) [0, 1, 2, 3, 4, 5, 6, 7],ym 101 100 [0, 1, 2, 3, 4, 5, 6, 7, 8],yf 102 101 (.mov (.t 3)) [0, 1, 2, 3, 4, 5, 6, 7, 8, 9],yf 103 101 (.mov (.t 4)) [0, 1, 2, 3, 4, 5, 6, 7, 8, 9],yf 104 101 (.bin .sub 0 (.t 103) (ki 1)) [0, 1, 2, 3, 4, 5, 6, 7, 8, 9, 11],yf 105 101 (.iaddr 1 (.t 102) (.t 104)) [0, 1, 2, 3, 4, 5, 6, 7, 8, 9, 10, 11, 12],yf 106 101 (.load false 1 (.t 105)) [0, 1, 2, 3, 4, 5, 6, 7, 8, 9, 10, 11, 12, 13],yf 107 101 (.bin .lss 0 (.t 106) (ki 1)) [0, 1, 2, 3, 4, 5, 6, 7, 8, 9, 10, 11, 12, 13, 14],yo 108 (.pick (.t 101) kt (.t 107)) [0, 1, 2, 3, 4, 5, 6, 7, 8, 9, 10, 11, 12, 13, 14, 15],ym 109 108 [0, 1, 2, 3, 4, 5, 6, 7, 8, 9, 10, 11, 12, 13, 14, 15, 16],yf 110 109 (.faddr 1 (.t 5)) [0, 1, 2, 3, 4, 5, 6, 7, 8, 9, 10, 11, 12, 13, 14, 15, 16, 17],yf 111 109 (.load false 1 (.t 110)) [0, 1, 2, 3, 4, 5, 6, 7, 8, 9, 10, 11, 12, 13, 14, 15, 16, 17, 18],yf 112 109 (.mov (.t 3)) [0, 1, 2, 3, 4, 5, 6, 7, 8, 9, 10, 11, 12, 13, 14, 15, 16, 17],yf 113 109 (.mov (.t 4)) [0, 1, 2, 3, 4, 5, 6, 7, 8, 9, 10, 11, 12, 13, 14, 15, 16, 17],yf 114 109 (.bin .sub 0 (.t 113) (ki 1)) [0, 1, 2, 3, 4, 5, 6, 7, 8, 9, 10, 11, 12, 13, 14, 15, 16, 17, 21],yf 115 109 (.iaddr 1 (.t 112) (.t 114)) [0, 1, 2, 3, 4, 5, 6, 7, 8, 9, 10, 11, 12, 13, 14, 15, 16, 17, 20, 21, 22],yf 116 109 (.load false 1 (.t 115)) [0, 1, 2, 3, 4, 5, 6, 7, 8, 9, 10, 11, 12, 13, 14, 15, 16, 17, 20, 21, 22, 23],yf 117 109 (.bin .sub 0 (.t 116) (ki 1)) [0, 1, 2, 3, 4, 5, 6, 7, 8, 9, 10, 11, 12, 13, 14, 15, 16, 17, 20, 21, 22, 23, 24],yf 118 109 (.bin .neq 0 (.t 111) (.t 117)) [0, 1, 2, 3, 4, 5, 6, 7, 8, 9, 10, 11, 12, 13, 14, 15, 16, 17, 18, 19, 20, 21, 22, 23, 24, 25],yo 119 (.pick (.t 109) kt (.t 118)) (rng 0 27)] (rng 92 27))
(.cond (.t 119) [119] (.seq (.reg [xo 2 (.anil 3 1)] [])
.ret) .skip))
(.reg [xm 120 3,xm 121 3,xo 122 (.faddr 1 (.t 5)),xo 123 (.load false 1 (.t 122)),xo 124 (.iaddr 1 (.t 121) (.t 123)),xo 125 (.load false 1 (.t 124)),xo 126 (.mkl 3 1 [(.int .i64 0)] 1 [(0, (.t 125))] false),xo 127 (.app 3 1 8 (.t 120) (.t 126)),xm 3 127] (rng 120 8))) (.seq (.reg [xo 2 (.anil 3 1)] [])
.ret))))))))))))
(.reg [xm 10 4,xo 11 (.bin .add 0 (.t 10) (ki 1)),xm 4 11] [10,11]))))))
(.seq (.reg [xm 128 3,xm 2 128] [128])
.ret))))
/-- caesura/caesuraref11.Begin -/
def fn36 : AFn := ⟨1, 129, c36, [(.t 2)], 0⟩
theorem fn36_body : fn36.body = c36 := rfl
theorem fn36_res : fn36.res = [(.t 2)] := rfl
theorem fn36_keep : fn36.keep = 0 := rfl
def c37 : ACode :=
(.seq (.reg [xo 0 (.mov kf)] [])
(.seq (.reg [xo 25 (.agg [(.int .i64 0),(.int .i64 0)] [(0, 1, (ki 97)),(1, 1, (ki 97))]),xo 26 (.mkl 70 2 [(.int .i64 0),(.int .i64 0)] 1 [(0, (.t 25))] false),⟨(some 27), none, .call 22 [(true, (.t 26)),(true, (.k (.str ⟨#[]⟩)))], []⟩,xm 24 27,xo 28 (.ext (.t 24) 0),xo 29 (.ext (.t 24) 1),xm 1 28,xm 2 29] (rng 24 6))
(.seq (.reg [xo 31 (.agg [(.int .i64 0),(.int .i64 0)] [(0, 1, (ki 98)),(1, 1, (ki 98))]),xo 32 (.mkl 70 2 [(.int .i64 0),(.int .i64 0)] 1 [(0, (.t 31))] false),⟨(some 33), none, .call 22 [(true, (.t 32)),(true, (.k (.str ⟨#[]⟩)))], []⟩,xm 30 33,xo 34 (.ext (.t 30) 0),xo 35 (.ext (.t 30) 1),xm 3 34,xm 4 35] (rng 30 6))
(.seq (.reg [xo 36 (.call 34 [(true, (ki 1))]),xm 5 36] [36])
(.seq (.reg [xm 38 1,xo 39 (.call 40 [(true, (.t 38))]),xm 37 39,xo 40 (.ext (.t 37) 0),xo 41 (.ext (.t 37) 1),xm 6 40,xm 7 41] (rng 37 5))
(.seq (.reg [xm 43 6,xo 44 (.call 40 [(true, (.t 43))]),xm 42 44,xo 45 (.ext (.t 42) 0),xo 46 (.ext (.t 42) 1),xm 8 45,xm 9 46] (rng 42 5))
(.seq (.reg [xm 48 5,xm 49 6,xo 50 (.call 39 [(true, (.t 48)),(true, (.t 49))]),xm 47 50,xo 51 (.ext (.t 47) 0),xo 52 (.ext (.t 47) 1),xm 10 51,xm 11 52] (rng 47 6))
(.seq (.reg [xm 54 1,xm 55 1,xo 56 (.call 39 [(true, (.t 54)),(true, (.t 55))]),xm 53 56,xo 57 (.ext (.t 53) 0),xo 58 (.ext (.t 53) 1),xm 12 57,xm 13 58] (rng 53 6))
(.seq (.reg [xo 60 (.call 34 [(true, (ki 0))]),xm 61 1,xo 62 (.call 38 [(true, (.t 60)),(true, (.t 61))]),xm 59 62,xo 63 (.ext (.t 59) 0),xo 64 (.ext (.t 59) 1),xm 14 63,xm 15 64] (rng 59 6))
(.seq (.reg [xm 66 1,xm 67 5,xo 68 (.call 39 [(true, (.t 66)),(true, (.t 67))]),xm 65 68,xo 69 (.ext (.t 65) 0),xo 70 (.ext (.t 65) 1),xm 16 69,xm 17 70] (rng 65 6))
(.seq (.reg [xm 72 16,xo 73 (.call 40 [(true, (.t 72))]),xm 71 73,xo 74 (.ext (.t 71) 0),xo 75 (.ext (.t 71) 1),xm 18 74,xm 19 75] (rng 71 5))
(.seq (.reg [xm 77 1,xm 78 3,xo 79 (.call 38 [(true, (.t 77)),(true, (.t 78))]),xm 76 79,xo 80 (.ext (.t 76) 0),xo 81 (.ext (.t 76) 1),xm 20 80,xm 21 81] (rng 76 6))
(.seq (.reg [xm 83 1,xm 84 20,xo 85 (.call 38 [(true, (.t 83)),(true, (.t 84))]),xm 82 85,xo 86 (.ext (.t 82) 0),xo 87 (.ext (.t 82) 1),xm 22 86,xm 23 87] (rng 82 6))
(.seq (.reg [xm 88 2,xm 89 88,xt 90 89 (.mov (.t 4)),xo 91 (.pick (.t 89) (.t 90) kf),xm 92 91,xt 93 92 (.mov (.t 7)),xo 94 (.pick (.t 92) (.t 93) kf),xm 95 94,xt 96 95 (.mov (.t 9)),xo 97 (.pick (.t 95) (.t 96) kf),xm 98 97,xt 99 98 (.mov (.t 11)),xo 100 (.pick (.t 98) (.t 99) kf),xm 101 100,xt 102 101 (.mov (.t 13)),xo 103 (.pick (.t 101) (.t 102) kf),xm 104 103,xt 105 104 (.mov (.t 15)),xo 106 (.pick (.t 104) (.t 105) kf),xm 107 106,xt 108 107 (.mov (.t 17)),xo 109 (.pick (.t 107) (.t 108) kf),xm 110 109,xt 111 110 (.mov (.t 19)),xo 112 (.pick (.t 110) (.t 111) kf),xm 113 112,xt 114 113 (.mov (.t 21)),xo 115 (.pick (.t 113) (.t 114) kf),xm 116 115,xt 117 116 (.mov (.t 23)),xo 118 (.pick (.t 116) (.t 117) kf),xm 119 118,xt 120 119 (.mov (.t 6)),xt 121 119 (.mov (.t 8)),xt 122 119 (.call 28 [(true, (.t 120)),(true, (.t 121))]),xo 123 (.pick (.t 119) (.t 122) kf),xm 124 123,xt 125 124 (.mov (.t 10)),xt 126 124 (.mov (.t 6)),xt 127 124 (.call 28 [(true, (.t 125)),(true, (.t 126))]),xo 128 (.pick (.t 124) (.t 127) kf),xm 129 128,xt 130 129 (.mov (.t 12)),xt 131 129 (.mov (.t 1)),xt 132 129 (.call 28 [(true, (.t 130)),(true, (.t 131))]),xo 133 (.pick (.t 129) (.t 132) kf),xm 134 133,xt 135 134 (.mov (.t 14)),xt 136 134 (.len 1 (.t 135)),xt 137 134 (.bin .eql 0 (.t 136) (ki 1)),xo 138 (.pick (.t 134) (.t 137) kf),xm 139 138,xt 140 139 (.mov (.t 14)),xt 141 139 (.iaddr 5 (.t 140) (ki 0)),xt 142 139 (.faddr 0 (.t 141)),xt 143 139 (.load false 1 (.t 142)),xt 144 139 (.bin .eql 0 (.t 143) (ki 0)),xo 145 (.pick (.t 139) (.t 144) kf),xm 146 145,xt 147 146 (.mov (.t 16)),xt 148 146 (.len 1 (.t 147)),xt 149 146 (.bin .eql 0 (.t 148) (ki 3)),xo 150 (.pick (.t 146) (.t 149) kf),xm 151 150,xt 152 151 (.mov (.t 18)),xt 153 151 (.mov (.t 6)),xt 154 151 (.call 28 [(true, (.t 152)),(true, (.t 153))]),xo 155 (.pick (.t 151) (.t 154) kf),xm 156 155,xt 157 156 (.mov (.t 22)),xt 158 156 (.len 1 (.t 157)),xt 159 156 (.bin .eql 0 (.t 158) (ki 5)),xo 160 (.pick (.t 156) (.t 159) kf),xm 161 160,xt 162 161 (.mov (.t 22)),xt 163 161 (.iaddr 5 (.t 162) (ki 2)),xt 164 161 (.faddr 0 (.t 163)),xt 165 161 (.load false 1 (.t 164)),xt 166 161 (.bin .eql 0 (.t 165) (ki 3)),xo 167 (.pick (.t 161) (.t 166) kf),xm 0 167] (rng 88 80))
.ret))))))))))))))
/-- caesura/caesuralaw12.wakes -/
def fn37 : AFn := ⟨0, 168, c37, [(.t 0)], 0⟩
theorem fn37_body : fn37.body = c37 := rfl
theorem fn37_res : fn37.res = [(.t 0)] := rfl
theorem fn37_keep : fn37.keep = 0 := rfl
def c38 : ACode :=
(.seq (.reg [xo 4 (.anil 48 5),xo 5 (.mov kf)] [])
(.seq (.block 0 (.seq (.reg [xm 12 0,xo 13 (.call 29 [(true, (.t 12))]),xo 14 (.un .not (.t 13)),xm 15 14,xf 16 15 (.mov (.t 1)),xf 17 15 (.call 29 [(true, (.t 16))]),xf 18 15 (.un .not (.t 17)),xo 19 (.pick (.t 15) kt (.t 18)),xm 11 19] (rng 12 8))
(.cond (.t 11) [11] (.seq (.reg [xo 4 (.anil 48 5),xo 5 (.mov kf)] [])
.ret) (.seq (.reg [xm 21 0,xo 22 (.call 76 [(true, (.t 21)),(true, (ki 0))]),xm 23 22,xf 24 23 (.mov (.t 1)),xf 25 23 (.call 76 [(true, (.t 24)),(true, (ki 0))]),xo 26 (.pick (.t 23) kt (.t 25)),xm 20 26] (rng 21 6))
(.cond (.t 20) [20] (.seq (.reg [xo 27 (.call 34 [(true, (ki 0))]),xm 4 27,xo 5 (.mov kt)] [27])
.ret) (.seq (.reg [xm 29 0,xo 30 (.call 76 [(true, (.t 29)),(true, (ki 1))]),xm 28 30] [29,30])
(.cond (.t 28) [28] (.seq (.reg [xm 31 1,xo 32 (.call 77 [(true, (.t 31))]),xm 4 32,xo 5 (.mov kt)] [31,32])
.ret) (.seq (.reg [xm 34 1,xo 35 (.call 76 [(true, (.t 34)),(true, (ki 1))]),xm 33 35] [34,35])
(.cond (.t 33) [33] (.seq (.reg [xm 36 0,xo 37 (.call 77 [(true, (.t 36))]),xm 4 37,xo 5 (.mov kt)] [36,37])
.ret) (.seq (.reg [xm 39 1,xo 40 (.call 76 [(true, (.t 39)),(true, (ki 3))]),xo 41 (.un .not (.t 40)),xm 38 41] [39,40,41])
(.cond (.t 38) [38] (.seq (.reg [xm 42 0,xm 43 1,xo 44 (.call 19 [(true, (.t 42)),(true, (.t 43))]),xo 45 (.ext (.t 44) 0),xo 46 (.ext (.t 44) 1),xm 4 45,xm 5 46] (rng 42 5))
.ret) .skip)))))))))))
(.seq (.reg [xm 48 1,xo 49 (.call 23 [(true, (.t 48))]),xm 47 49,xo 50 (.ext (.t 47) 0),xo 51 (.ext (.t 47) 1),xo 52 (.ext (.t 47) 2),xm 6 50,xm 7 51,xm 8 52] [8,47,48,49,50,51,52])
(.seq (.reg [xm 54 0,xm 55 6,xo 56 (.call 38 [(true, (.t 54)),(true, (.t 55))]),xm 53 56,xo 57 (.ext (.t 53) 0),xo 58 (.ext (.t 53) 1),xm 9 57,xm 10 58] (rng 53 6))
(.seq (.seq (.reg [xm 59 10,xo 60 (.un .not (.t 59))] [59])
(.cond (.t 60) [60] (.seq (.reg [xo 4 (.anil 48 5),xo 5 (.mov kf)] [])
.ret) .skip))
(.seq (.reg [xm 61 9,xm 62 7,xo 63 (.call 38 [(true, (.t 61)),(true, (.t 62))]),xo 64 (.ext (.t 63) 0),xo 65 (.ext (.t 63) 1),xm 4 64,xm 5 65] (rng 61 5))
.ret))))))
/-- caesura/smart.Cat -/
def fn38 : AFn := ⟨2, 66, c38, [(.t 4),(.t 5)], 0⟩
theorem fn38_body : fn38.body = c38 := rfl
theorem fn38_res : fn38.res = [(.t 4), (.t 5)] := rfl
theorem fn38_keep : fn38.keep = 0 := rfl
def c39 : ACode :=
(.seq (.reg [xo 4 (.anil 48 5),xo 5 (.mov kf)] [])
(.seq (.block 0 (.seq (.reg [xm 12 0,xo 13 (.call 29 [(true, (.t 12))]),xo 14 (.un .not (.t 13)),xm 15 14,xf 16 15 (.mov (.t 1)),xf 17 15 (.call 29 [(true, (.t 16))]),xf 18 15 (.un .not (.t 17)),xo 19 (.pick (.t 15) kt (.t 18)),xm 11 19] (rng 12 8))
(.cond (.t 11) [11] (.seq (.reg [xo 4 (.anil 48 5),xo 5 (.mov kf)] [])
.ret) (.seq (.reg [xm 21 0,xo 22 (.call 76 [(true, (.t 21)),(true, (ki 0))]),xm 20 22] [21,22])
(.cond (.t 20) [20] (.seq (.reg [xm 23 1,xo 24 (.call 77 [(true, (.t 23))]),xm 4 24,xo 5 (.mov kt)] [23,24])
.ret) (.seq (.reg [xm 26 1,xo 27 (.call 76 [(true, (.t 26)),(true, (ki 0))]),xm 25 27] [26,27])
(.cond (.t 25) [25] (.seq (.reg [xm 28 0,xo 29 (.call 77 [(true, (.t 28))]),xm 4 29,xo 5 (.mov kt)] [28,29])
.ret) .skip)))))))
(.seq (.reg [xm 30 0,xo 31 (.call 79 [(true, (.t 30))]),xm 32 1,xo 33 (.call 79 [(true, (.t 32))]),xo 34 (.app 23 1 24 (.t 31) (.t 33)),xo 35 (.call 78 [(true, (.t 34))]),xm 6 35] (rng 30 6))
(.seq (.reg [xm 36 6,xo 37 (.iaddr 1 (.t 36) (ki 0)),xo 38 (.load false 1 (.t 37)),xm 7 38,xo 8 (.mov kt)] [36,37,38])
(.seq (.seq (.reg [xm 39 6,xo 40 (.slc 1 (.t 39) (some (ki 1)) none none),xo 41 (.len 1 (.t 40)),xo 42 (.mov (ki 0))] [39])
(.block 1 (.loop false (.seq (.reg [xo 43 (.bin .lss 0 (.t 42) (.t 41))] [])
(.seq (.cond (.t 43) [43] .skip (.exit 1))
(.seq (.block 2 (.seq (.reg [xo 44 (.iaddr 1 (.t 40) (.t 42)),xo 45 (.load false 1 (.t 44)),xm 10 45] [44,45])
(.seq (.reg [xm 47 7,xm 48 10,xo 49 (.call 20 [(true, (.t 47)),(true, (.t 48))]),xm 46 49,xo 50 (.ext (.t 46) 0),xo 51 (.ext (.t 46) 1),xm 7 50,xm 8 51] (rng 46 6))
(.seq (.reg [xm 52 8,xo 53 (.un .not (.t 52))] [52])
(.cond (.t 53) [53] (.seq (.reg [xo 4 (.anil 48 5),xo 5 (.mov kf)] [])
.ret) .skip)))))
(.reg [xo 54 (.bin .add 0 (.t 42) (ki 1)),xm 42 54] [54])))))))
(.seq (.reg [xm 55 7,xm 4 55,xo 5 (.mov kt)] [55])
.ret))))))
/-- caesura/smart.Alt -/
def fn39 : AFn := ⟨2, 56, c39, [(.t 4),(.t 5)], 0⟩
theorem fn39_body : fn39.body = c39 := rfl
theorem fn39_res : fn39.res = [(.t 4), (.t 5)] := rfl
theorem fn39_keep : fn39.keep = 0 := rfl
def c40 : ACode :=
(.seq (.reg [xo 2 (.anil 48 5),xo 3 (.mov kf)] [])
(.seq (.block 0 (.seq (.reg [xm 7 0,xo 8 (.call 29 [(true, (.t 7))]),xo 9 (.un .not (.t 8)),xm 6 9] [7,8,9])
(.cond (.t 6) [6] (.seq (.reg [xo 2 (.anil 48 5),xo 3 (.mov kf)] [])
.ret) (.seq (.reg [xm 11 0,xo 12 (.call 76 [(true, (.t 11)),(true, (ki 0))]),xm 13 12,xf 14 13 (.mov (.t 0)),xf 15 13 (.call 76 [(true, (.t 14)),(true, (ki 1))]),xo 16 (.pick (.t 13) kt (.t 15)),xm 10 16] (rng 11 6))
(.cond (.t 10) [10] (.seq (.reg [xo 17 (.call 34 [(true, (ki 1))]),xm 2 17,xo 3 (.mov kt)] [17])
.ret) (.seq (.reg [xm 19 0,xo 20 (.call 76 [(true, (.t 19)),(true, (ki 5))]),xm 18 20] [19,20])
(.cond (.t 18) [18] (.seq (.reg [xm 21 0,xo 22 (.call 77 [(true, (.t 21))]),xm 2 22,xo 3 (.mov kt)] [21,22])
.ret) (.seq (.reg [xm 24 0,xo 25 (.call 76 [(true, (.t 24)),(true, (ki 4))]),xo 26 (.un .not (.t 25)),xm 23 26] [24,25,26])
(.cond (.t 23) [23] (.seq (.reg [xm 27 0,xo 28 (.call 21 [(true, (.t 27))]),xo 29 (.ext (.t 28) 0),xo 30 (.ext (.t 28) 1),xm 2 29,xm 3 30] (rng 27 4))
.ret) .skip)))))))))
(.seq (.reg [xm 32 0,xo 33 (.call 80 [(true, (.t 32))]),xm 31 33,xo 34 (.ext (.t 31) 0),xo 35 (.ext (.t 31) 1),xm 4 34,xm 5 35] (rng 31 5))
(.seq (.block 1 (.seq (.reg [xm 37 5,xo 38 (.un .not (.t 37)),xm 36 38] [37,38])
(.cond (.t 36) [36] (.seq (.reg [xo 2 (.anil 48 5),xo 3 (.mov kf)] [])
.ret) (.seq (.reg [xm 40 4,xo 41 (.call 76 [(true, (.t 40)),(true, (ki 4))]),xm 39 41] [40,41])
(.cond (.t 39) [39] (.seq (.reg [xm 42 4,xo 43 (.call 21 [(true, (.t 42))]),xo 44 (.ext (.t 43) 0),xo 45 (.ext (.t 43) 1),xm 2 44,xm 3 45] (rng 42 4))
.ret) .skip)))))
(.seq (.reg [xm 46 4,xo 47 (.call 40 [(true, (.t 46))]),xo 48 (.ext (.t 47) 0),xo 49 (.ext (.t 47) 1),xm 2 48,xm 3 49] (rng 46 4))
.ret)))))
/-- caesura/smart.Star -/
def fn40 : AFn := ⟨1, 50, c40, [(.t 2),(.t 3)], 0⟩
theorem fn40_body : fn40.body = c40 := rfl
theorem fn40_res : fn40.res = [(.t 2), (.t 3)] := rfl
theorem fn40_keep : fn40.keep = 0 := rfl
def c41 : ACode :=
(.seq (.reg [xo 2 (.anil 48 5),xo 3 (.mov kf)] [])
(.seq (.seq (.reg [xm 8 0,xo 9 (.call 29 [(true, (.t 8))]),xo 10 (.un .not (.t 9))] [8,9])
(.cond (.t 10) [10] (.seq (.reg [xo 2 (.anil 48 5),xo 3 (.mov kf)] [])
.ret) .skip))
(.seq (.reg [xm 11 0,xo 12 (.len 1 (.t 11)),xo 13 (.mks 23 1 24 [(.list 5 [])] (.t 12)),xm 4 13] [11,12,13])
(.seq (.seq (.reg [xm 14 0,xo 15 (.len 1 (.t 14)),xo 16 (.mov (ki 0))] [])
(.block 0 (.loop false (.seq (.reg [xo 17 (.bin .lss 0 (.t 16) (.t 15))] [])
(.seq (.cond (.t 17) [17] .skip (.exit 0))
(.seq (.block 1 (.seq (.reg [xm 18 16,xo 19 (.iaddr 5 (.t 14) (.t 16)),xo 20 (.load true 5 (.t 19)),⟨(some 6), none, .new [(.int .i64 0),(.int .i64 0),(.int .i64 0),(.list 2 []),(.str ⟨#[]⟩)], []⟩,xm 5 18,xn (.store false 5 (.t 6) (.t 20))] [18,19,20])
(.seq (.reg [xo 7 (.mov kt)] [])
(.seq (.seq (.reg [xo 21 (.faddr 0 (.t 6)),xo 22 (.load false 1 (.t 21))] [21])
(.block 2 (.seq (.reg [xo 33 (.bin .eql 0 (.t 22) (ki 3)),xm 32 33] [33])
(.cond (.t 32) [32] (.dreg [xm 35 4,xm 36 5,xm 37 4,xo 38 (.faddr 1 (.t 6)),yo 39 (.load false 1 (.t 38)) [3],yo 40 (.iaddr 1 (.t 37) (.t 39)) [2, 3, 4],yo 41 (.load false 1 (.t 40)) [2, 3, 4, 5],xm 42 4,xo 43 (.faddr 2 (.t 6)),yo 44 (.load false 1 (.t 43)) [8],yo 45 (.iaddr 1 (.t 42) (.t 44)) [7, 8, 9],yo 46 (.load false 1 (.t 45)) [7, 8, 9, 10],yo 47 (.call 38 [(true, (.t 41)),(true, (.t 46))]) [2, 3, 4, 5, 6, 7, 8, 9, 10, 11],ym 34 47 [2, 3, 4, 5, 6, 7, 8, 9, 10, 11, 12],yo 48 (.ext (.t 34) 0) [2, 3, 4, 5, 6, 7, 8, 9, 10, 11, 12, 13],yo 49 (.ext (.t 34) 1) [2, 3, 4, 5, 6, 7, 8, 9, 10, 11, 12, 13],yo 50 (.iaddr 1 (.t 35) (.t 36)) [0, 1, 2, 3, 4, 5, 6, 7, 8, 9, 10, 11, 12, 13, 14],⟨none, none, .store false 1 (.t 50) (.t 48), [0, 1, 2, 3, 4, 5, 6, 7, 8, 9, 10, 11, 12, 13, 14, 16]⟩,ym 7 49 (rng 0 18)] (rng 34 17)) (.seq (.reg [xo 52 (.bin .eql 0 (.t 22) (ki 4)),xm 51 52] [52])
(.cond (.t 51) [51] (.dreg [xm 54 4,xm 55 5,xm 56 4,xo 57 (.faddr 1 (.t 6)),yo 58 (.load false 1 (.t 57)) [3],yo 59 (.iaddr 1 (.t 56) (.t 58)) [2, 3, 4],yo 60 (.load false 1 (.t 59)) [2, 3, 4, 5],xm 61 4,xo 62 (.faddr 2 (.t 6)),yo 63 (.load false 1 (.t 62)) [8],yo 64 (.iaddr 1 (.t 61) (.t 63)) [7, 8, 9],yo 65 (.load false 1 (.t 64)) [7, 8, 9, 10],yo 66 (.call 39 [(true, (.t 60)),(true, (.t 65))]) [2, 3, 4, 5, 6, 7, 8, 9, 10, 11],ym 53 66 [2, 3, 4, 5, 6, 7, 8, 9, 10, 11, 12],yo 67 (.ext (.t 53) 0) [2, 3, 4, 5, 6, 7, 8, 9, 10, 11, 12, 13],yo 68 (.ext (.t 53) 1) [2, 3, 4, 5, 6, 7, 8, 9, 10, 11, 12, 13],yo 69 (.iaddr 1 (.t 54) (.t 55)) [0, 1, 2, 3, 4, 5, 6, 7, 8, 9, 10, 11, 12, 13, 14],⟨none, none, .store false 1 (.t 69) (.t 67), [0, 1, 2, 3, 4, 5, 6, 7, 8, 9, 10, 11, 12, 13, 14, 16]⟩,ym 7 68 (rng 0 18)] (rng 53 17)) (.seq (.reg [xo 71 (.bin .eql 0 (.t 22) (ki 5)),xm 70 71] [71])
(.cond (.t 70) [70] (.reg [xm 73 4,xm 74 5,xm 75 4,xo 76 (.faddr 1 (.t 6)),xo 77 (.load false 1 (.t 76)),xo 78 (.iaddr 1 (.t 75) (.t 77)),xo 79 (.load false 1 (.t 78)),xo 80 (.call 40 [(true, (.t 79))]),xm 72 80,xo 81 (.ext (.t 72) 0),xo 82 (.ext (.t 72) 1),xo 83 (.iaddr 1 (.t 73) (.t 74)),xn (.store false 1 (.t 83) (.t 81)),xm 7 82] (rng 72 12)) (.reg [xm 23 4,xm 24 5,xm 25 0,xm 26 5,xm 27 5,xo 28 (.bin .add 0 (.t 27) (ki 1)),xo 29 (.slc 5 (.t 25) (some (.t 26)) (some (.t 28)) none),xo 30 (.call 77 [(true, (.t 29))]),xo 31 (.iaddr 1 (.t 23) (.t 24)),xn (.store false 1 (.t 31) (.t 30))] (rng 23 9))))))))))
(.seq (.reg [xm 84 7,xo 85 (.un .not (.t 84))] [84])
(.cond (.t 85) [85] (.seq (.reg [xo 2 (.anil 48 5),xo 3 (.mov kf)] [])
.ret) .skip))))))
(.reg [xo 86 (.bin .add 0 (.t 16) (ki 1)),xm 16 86] [86])))))))
(.seq (.reg [xm 87 4,xm 88 0,xo 89 (.len 1 (.t 88)),xo 90 (.bin .sub 0 (.t 89) (ki 1)),xo 91 (.iaddr 1 (.t 87) (.t 90)),xo 92 (.load false 1 (.t 91)),xm 2 92,xo 3 (.mov kt)] (rng 87 6))
.ret)))))
/-- caesura/smart.Clean -/
def fn41 : AFn := ⟨1, 93, c41, [(.t 2),(.t 3)], 0⟩
theorem fn41_body : fn41.body = c41 := rfl
theorem fn41_res : fn41.res = [(.t 2), (.t 3)] := rfl
theorem fn41_keep : fn41.keep = 0 := rfl
def c42 : ACode :=
(.seq (.reg [xo 4 (.anil 48 5)] [])
(.seq (.seq (.reg [xm 7 0,xo 8 (.call 30 [(true, (.t 7))]),xo 9 (.un .not (.t 8)),xm 10 9,xf 11 10 (.mov (.t 1)),xf 12 10 (.call 30 [(true, (.t 11))]),xf 13 10 (.un .not (.t 12)),xo 14 (.pick (.t 10) kt (.t 13))] (rng 7 7))
(.cond (.t 14) [14] (.seq (.reg [xo 4 (.anil 48 5)] [])
.ret) .skip))
(.seq (.block 0 (.seq (.reg [xm 16 0,xo 17 (.call 81 [(true, (.t 16))]),xo 18 (.bin .eql 0 (.t 17) (ki 0)),xm 19 18,xf 20 19 (.mov (.t 1)),xf 21 19 (.call 81 [(true, (.t 20))]),xf 22 19 (.bin .eql 0 (.t 21) (ki 0)),xo 23 (.pick (.t 19) kt (.t 22)),xm 15 23] (rng 16 8))
(.cond (.t 15) [15] (.seq (.reg [xo 24 (.call 35 [(true, (ki 0))]),xm 4 24] [24])
.ret) (.seq (.reg [xm 26 0,xo 27 (.call 81 [(true, (.t 26))]),xo 28 (.bin .eql 0 (.t 27) (ki 1)),xm 25 28] [26,27,28])
(.cond (.t 25) [25] (.seq (.reg [xm 29 1,xm 4 29] [29])
.ret) (.seq (.reg [xm 31 1,xo 32 (.call 81 [(true, (.t 31))]),xo 33 (.bin .eql 0 (.t 32) (ki 1)),xm 30 33] [31,32,33])
(.cond (.t 30) [30] (.seq (.reg [xm 34 0,xm 4 34] [34])
.ret) (.seq (.reg [xm 36 1,xo 37 (.call 81 [(true, (.t 36))]),xo 38 (.bin .eql 0 (.t 37) (ki 3)),xm 35 38] [36,37,38])
(.cond (.t 35) [35] (.seq (.reg [xm 39 1,xo 40 (.call 24 [(true, (.t 39))]),xo 5 (.new [(.list 5 []),(.list 5 []),(.bool false)]),xn (.store false 3 (.t 5) (.t 40))] [39,40])
(.seq (.reg [xm 41 0,xo 42 (.faddr 0 (.t 5)),xo 43 (.load false 1 (.t 42)),xo 44 (.call 42 [(true, (.t 41)),(true, (.t 43))]),xm 6 44] (rng 41 4))
(.seq (.seq (.reg [xm 45 6,xo 46 (.len 1 (.t 45)),xo 47 (.bin .eql 0 (.t 46) (ki 0))] [45,46])
(.cond (.t 47) [47] (.seq (.reg [xo 4 (.anil 48 5)] [])
.ret) .skip))
(.seq (.reg [xm 48 6,xo 49 (.faddr 1 (.t 5)),xo 50 (.load false 1 (.t 49)),xo 51 (.call 42 [(true, (.t 48)),(true, (.t 50))]),xm 4 51] (rng 48 4))
.ret)))) .skip)))))))))
(.seq (.reg [xm 52 0,xm 53 1,xo 54 (.call 25 [(true, (ki 3)),(true, (.t 52)),(true, (.t 53))]),xm 4 54] [52,53,54])
.ret))))
/-- caesura/caesuraref12.Cat -/
def fn42 : AFn := ⟨2, 55, c42, [(.t 4)], 0⟩
theorem fn42_body : fn42.body = c42 := rfl
theorem fn42_res : fn42.res = [(.t 4)] := rfl
theorem fn42_keep : fn42.keep = 0 := rfl
def c43 : ACode :=
(.seq (.reg [xo 4 (.anil 48 5)] [])
(.seq (.seq (.reg [xm 5 0,xo 6 (.call 30 [(true, (.t 5))]),xo 7 (.un .not (.t 6)),xm 8 7,xf 9 8 (.mov (.t 1)),xf 10 8 (.call 30 [(true, (.t 9))]),xf 11 8 (.un .not (.t 10)),xo 12 (.pick (.t 8) kt (.t 11))] (rng 5 7))
(.cond (.t 12) [12] (.seq (.reg [xo 4 (.anil 48 5)] [])
.ret) .skip))
(.seq (.seq (.reg [xm 13 0,xo 14 (.call 81 [(true, (.t 13))]),xo 15 (.bin .eql 0 (.t 14) (ki 0))] [13,14])
(.cond (.t 15) [15] (.seq (.reg [xm 16 1,xm 4 16] [16])
.ret) .skip))
(.seq (.seq (.reg [xm 17 1,xo 18 (.call 81 [(true, (.t 17))]),xo 19 (.bin .eql 0 (.t 18) (ki 0))] [17,18])
(.cond (.t 19) [19] (.seq (.reg [xm 20 0,xm 4 20] [20])
.ret) .skip))
(.seq (.reg [xm 21 0,xo 22 (.call 83 [(true, (.t 21))]),xm 23 1,xo 24 (.call 83 [(true, (.t 23))]),xo 25 (.app 23 1 24 (.t 22) (.t 24)),xo 26 (.call 82 [(true, (.t 25))]),xm 4 26] (rng 21 6))
.ret)))))
/-- caesura/caesuraref12.Alt -/
def fn43 : AFn := ⟨2, 27, c43, [(.t 4)], 0⟩
theorem fn43_body : fn43.body = c43 := rfl
theorem fn43_res : fn43.res = [(.t 4)] := rfl
theorem fn43_keep : fn43.keep = 0 := rfl
def c44 : ACode :=
(.seq (.reg [xo 2 (.anil 48 5)] [])
(.seq (.seq (.reg [xm 8 0,xo 9 (.call 30 [(true, (.t 8))]),xo 10 (.un .not (.t 9))] [8,9])
(.cond (.t 10) [10] (.seq (.reg [xo 2 (.anil 48 5)] [])
.ret) .skip))
(.seq (.seq (.reg [xm 11 0,xo 12 (.call 81 [(true, (.t 11))])] [11])
(.block 0 (.seq (.seq (.reg [xo 14 (.bin .eql 0 (.t 12) (ki 0)),xm 13 14] [14])
(.cond (.t 13) [] .skip (.reg [xo 15 (.bin .eql 0 (.t 12) (ki 1)),xm 13 15] [15])))
(.cond (.t 13) [] (.seq (.reg [xo 16 (.call 35 [(true, (ki 1))]),xm 2 16] [16])
.ret) (.seq (.reg [xo 18 (.bin .eql 0 (.t 12) (ki 5)),xm 17 18] [18])
(.cond (.t 17) [17] (.seq (.reg [xm 19 0,xm 2 19] [19])
.ret) (.seq (.reg [xo 21 (.bin .eql 0 (.t 12) (ki 4)),xm 20 21] [21])
(.cond (.t 20) [20] (.seq (.reg [xo 3 (.anil 23 1)] [])
(.seq (.reg [xm 22 0,xo 23 (.call 83 [(true, (.t 22))]),xm 4 23] [22,23])
(.seq (.seq (.reg [xo 5 (.mov (ki 0))] [])
(.block 1 (.loop false (.seq (.seq (.reg [xm 24 5,xm 25 4,xo 26 (.len 1 (.t 25)),xo 27 (.bin .lss 0 (.t 24) (.t 26))] [24,25,26])
(.cond (.t 27) [27] .skip (.exit 1)))
(.seq (.block 2 (.seq (.reg [xm 30 4,xm 31 5,xo 32 (.iaddr 1 (.t 30) (.t 31)),xo 33 (.load false 1 (.t 32)),xo 34 (.call 81 [(true, (.t 33))]),xo 35 (.bin .neq 0 (.t 34) (ki 1))] (rng 30 5))
(.cond (.t 35) [35] (.reg [xm 36 3,xm 37 4,xm 38 5,xo 39 (.iaddr 1 (.t 37) (.t 38)),xo 40 (.load false 1 (.t 39)),xo 41 (.mkl 23 1 [(.list 5 [])] 1 [(0, (.t 40))] false),xo 42 (.app 23 1 24 (.t 36) (.t 41)),xm 3 42] (rng 36 7)) .skip)))
(.reg [xm 28 5,xo 29 (.bin .add 0 (.t 28) (ki 1)),xm 5 29] [28,29]))))))
(.seq (.seq (.reg [xm 43 3,xo 44 (.len 1 (.t 43)),xo 45 (.bin .eql 0 (.t 44) (ki 0))] [43,44])
(.cond (.t 45) [45] (.seq (.reg [xo 46 (.call 35 [(true, (ki 1))]),xm 2 46] [46])
.ret) .skip))
(.seq (.reg [xm 47 3,xo 48 (.iaddr 1 (.t 47) (ki 0)),xo 49 (.load false 1 (.t 48)),xm 6 49] [47,48,49])
(.seq (.seq (.reg [xo 7 (.mov (ki 1))] [])
(.block 3 (.loop false (.seq (.seq (.reg [xm 50 7,xm 51 3,xo 52 (.len 1 (.t 51)),xo 53 (.bin .lss 0 (.t 50) (.t 52))] [50,51,52])
(.cond (.t 53) [53] .skip (.exit 3)))
(.seq (.block 4 (.seq (.reg [xm 56 6,xm 57 3,xm 58 7,xo 59 (.iaddr 1 (.t 57) (.t 58)),xo 60 (.load false 1 (.t 59)),xo 61 (.call 43 [(true, (.t 56)),(true, (.t 60))]),xm 6 61] (rng 56 6))
(.seq (.reg [xm 62 6,xo 63 (.len 1 (.t 62)),xo 64 (.bin .eql 0 (.t 63) (ki 0))] [62,63])
(.cond (.t 64) [64] (.seq (.reg [xo 2 (.anil 48 5)] [])
.ret) .skip))))
(.reg [xm 54 7,xo 55 (.bin .add 0 (.t 54) (ki 1)),xm 7 55] [54,55]))))))
(.seq (.seq (.reg [xm 65 6,xo 66 (.call 81 [(true, (.t 65))]),xo 67 (.bin .neq 0 (.t 66) (ki 4))] [65,66])
(.cond (.t 67) [67] (.seq (.reg [xm 68 6,xo 69 (.call 84 [(true, (.t 68))]),xm 2 69] [68,69])
.ret) .skip))
(.seq (.reg [xm 70 6,xo 71 (.call 26 [(true, (.t 70))]),xm 2 71] [70,71])
.ret)))))))) .skip))))))))
(.seq (.reg [xm 72 0,xo 73 (.call 26 [(true, (.t 72))]),xm 2 73] [72,73])
.ret))))
/-- caesura/caesuraref12.Star -/
def fn44 : AFn := ⟨1, 74, c44, [(.t 2)], 0⟩
theorem fn44_body : fn44.body = c44 := rfl
theorem fn44_res : fn44.res = [(.t 2)] := rfl
theorem fn44_keep : fn44.keep = 0 := rfl
def c45 : ACode :=
(.seq (.reg [xo 2 (.anil 48 5)] [])
(.seq (.seq (.reg [xm 7 0,xo 8 (.call 30 [(true, (.t 7))]),xo 9 (.un .not (.t 8))] [7,8])
(.cond (.t 9) [9] (.seq (.reg [xo 2 (.anil 48 5)] [])
.ret) .skip))
(.seq (.reg [xo 3 (.anil 23 1)] [])
(.seq (.seq (.reg [xo 4 (.mov (ki 0))] [])
(.block 0 (.loop false (.seq (.seq (.reg [xm 10 4,xm 11 0,xo 12 (.len 1 (.t 11)),xo 13 (.bin .lss 0 (.t 10) (.t 12))] [10,11,12])
(.cond (.t 13) [13] .skip (.exit 0)))
(.seq (.block 1 (.seq (.reg [xm 16 0,xm 17 4,xo 18 (.iaddr 5 (.t 16) (.t 17)),xo 19 (.load true 5 (.t 18)),⟨(some 5), none, .new [(.int .i64 0),(.int .i64 0),(.int .i64 0),(.list 2 []),(.str ⟨#[]⟩)], []⟩,xn (.store false 5 (.t 5) (.t 19))] (rng 16 4))
(.seq (.reg [xo 6 (.anil 48 5)] [])
(.seq (.seq (.reg [xo 20 (.faddr 0 (.t 5)),xo 21 (.load false 1 (.t 20))] [20])
(.block 2 (.seq (.reg [xo 27 (.bin .eql 0 (.t 21) (ki 3)),xm 26 27] [27])
(.cond (.t 26) [26] (.dreg [xm 28 3,xo 29 (.faddr 1 (.t 5)),yo 30 (.load false 1 (.t 29)) [1],yo 31 (.iaddr 1 (.t 28) (.t 30)) [0, 1, 2],yo 32 (.load false 1 (.t 31)) [0, 1, 2, 3],xm 33 3,xo 34 (.faddr 2 (.t 5)),yo 35 (.load false 1 (.t 34)) [6],yo 36 (.iaddr 1 (.t 33) (.t 35)) [5, 6, 7],yo 37 (.load false 1 (.t 36)) [5, 6, 7, 8],yo 38 (.call 42 [(true, (.t 32)),(true, (.t 37))]) [0, 1, 2, 3, 4, 5, 6, 7, 8, 9],ym 6 38 (rng 0 11)] (rng 28 11)) (.seq (.reg [xo 40 (.bin .eql 0 (.t 21) (ki 4)),xm 39 40] [40])
(.cond (.t 39) [39] (.dreg [xm 41 3,xo 42 (.faddr 1 (.t 5)),yo 43 (.load false 1 (.t 42)) [1],yo 44 (.iaddr 1 (.t 41) (.t 43)) [0, 1, 2],yo 45 (.load false 1 (.t 44)) [0, 1, 2, 3],xm 46 3,xo 47 (.faddr 2 (.t 5)),yo 48 (.load false 1 (.t 47)) [6],yo 49 (.iaddr 1 (.t 46) (.t 48)) [5, 6, 7],yo 50 (.load false 1 (.t 49)) [5, 6, 7, 8],yo 51 (.call 43 [(true, (.t 45)),(true, (.t 50))]) [0, 1, 2, 3, 4, 5, 6, 7, 8, 9],ym 6 51 (rng 0 11)] (rng 41 11)) (.seq (.reg [xo 53 (.bin .eql 0 (.t 21) (ki 5)),xm 52 53] [53])
(.cond (.t 52) [52] (.reg [xm 54 3,xo 55 (.faddr 1 (.t 5)),xo 56 (.load false 1 (.t 55)),xo 57 (.iaddr 1 (.t 54) (.t 56)),xo 58 (.load false 1 (.t 57)),xo 59 (.call 44 [(true, (.t 58))]),xm 6 59] (rng 54 6)) (.reg [xm 22 0,xm 23 4,xm 24 4,xo 25 (.call 70 [(true, (.t 22)),(true, (.t 23)),(true, (.t 24))]),xm 6 25] (rng 22 4))))))))))
(.seq (.seq (.reg [xm 60 6,xo 61 (.len 1 (.t 60)),xo 62 (.bin .eql 0 (.t 61) (ki 0))] [60,61])
(.cond (.t 62) [62] (.seq (.reg [xo 2 (.anil 48 5)] [])
.ret) .skip))
(.reg [xm 63 3,xm 64 6,xo 65 (.mkl 23 1 [(.list 5 [])] 1 [(0, (.t 64))] false),xo 66 (.app 23 1 24 (.t 63) (.t 65)),xm 3 66] (rng 63 4)))))))
(.reg [xm 14 4,xo 15 (.bin .add 0 (.t 14) (ki 1)),xm 4 15] [14,15]))))))
(.seq (.reg [xm 67 3,xm 68 0,xo 69 (.len 1 (.t 68)),xo 70 (.bin .sub 0 (.t 69) (ki 1)),xo 71 (.iaddr 1 (.t 67) (.t 70)),xo 72 (.load false 1 (.t 71)),xm 2 72] (rng 67 6))
.ret)))))
/-- caesura/caesuraref12.Clean -/
def fn45 : AFn := ⟨1, 73, c45, [(.t 2)], 0⟩
theorem fn45_body : fn45.body = c45 := rfl
theorem fn45_res : fn45.res = [(.t 2)] := rfl
theorem fn45_keep : fn45.keep = 0 := rfl
def c56 : ACode :=
(.seq (.reg [xo 2 (.mov kf)] [])
(.seq (.seq (.reg [xm 5 0,xo 6 (.len 1 (.t 5)),xo 7 (.mov (ki 0))] [])
(.block 0 (.loop false (.seq (.reg [xo 8 (.bin .lss 0 (.t 7) (.t 6))] [])
(.seq (.cond (.t 8) [8] .skip (.exit 0))
(.seq (.block 1 (.seq (.reg [xm 9 7,xo 10 (.iaddr 2 (.t 5) (.t 7)),xo 11 (.load true 2 (.t 10)),xo 4 (.new [(.int .i64 0),(.int .i64 0)]),xm 3 9,xn (.store false 2 (.t 4) (.t 11))] [9,10,11])
(.seq (.dreg [xo 12 (.load true 2 (.t 4)),yo 13 (.call 88 [(true, (.t 12))]) [0],yo 14 (.un .not (.t 13)) [0, 1],ym 15 14 [0, 1, 2],yf 16 15 (.mov (.t 3)) [0, 1, 2, 3],yf 17 15 (.bin .gtr 0 (.t 16) (ki 0)) [0, 1, 2, 3, 4],yf 18 15 (.mov (.t 17)) [0, 1, 2, 3, 4, 5],yt 19 18 (.mov (.t 0)) [0, 1, 2, 3, 4, 5, 6],yt 20 18 (.mov (.t 3)) [0, 1, 2, 3, 4, 5, 6],yt 21 18 (.bin .sub 0 (.t 20) (ki 1)) [0, 1, 2, 3, 4, 5, 6, 8],yt 22 18 (.iaddr 2 (.t 19) (.t 21)) [0, 1, 2, 3, 4, 5, 6, 7, 8, 9],yt 23 18 (.load true 2 (.t 22)) [0, 1, 2, 3, 4, 5, 6, 7, 8, 9, 10],yt 24 18 (.load true 2 (.t 4)) [0, 1, 2, 3, 4, 5, 6],yt 25 18 (.call 89 [(true, (.t 23)),(true, (.t 24))]) [0, 1, 2, 3, 4, 5, 6, 7, 8, 9, 10, 11, 12],yt 26 18 (.un .not (.t 25)) [0, 1, 2, 3, 4, 5, 6, 7, 8, 9, 10, 11, 12, 13],yf 27 15 (.pick (.t 18) (.t 26) kf) [0, 1, 2, 3, 4, 5, 6, 7, 8, 9, 10, 11, 12, 13, 14],yo 28 (.pick (.t 15) kt (.t 27)) (rng 0 16)] (rng 12 16))
(.cond (.t 28) [28] (.seq (.reg [xo 2 (.mov kf)] [])
.ret) .skip))))
(.reg [xo 29 (.bin .add 0 (.t 7) (ki 1)),xm 7 29] [29])))))))
(.seq (.reg [xo 2 (.mov kt)] [])
.ret)))
/-- caesura/sets.Good -/
def fn56 : AFn := ⟨1, 30, c56, [(.t 2)], 0⟩
theorem fn56_body : fn56.body = c56 := rfl
theorem fn56_res : fn56.res = [(.t 2)] := rfl
theorem fn56_keep : fn56.keep = 0 := rfl
def c57 : ACode :=
(.seq (.reg [xo 2 (.mov kf)] [])
(.seq (.seq (.reg [xo 3 (.mov (ki 0))] [])
(.block 0 (.loop false (.seq (.seq (.reg [xm 5 3,xm 6 0,xo 7 (.len 1 (.t 6)),xo 8 (.bin .lss 0 (.t 5) (.t 7))] [5,6,7])
(.cond (.t 8) [8] .skip (.exit 0)))
(.seq (.block 1 (.seq (.seq (.dreg [xm 11 0,xm 12 3,yo 13 (.iaddr 2 (.t 11) (.t 12)) [0, 1],yo 14 (.faddr 0 (.t 13)) [0, 1, 2],yo 15 (.load false 1 (.t 14)) [0, 1, 2, 3],yo 16 (.call 66 [(true, (.t 15))]) [0, 1, 2, 3, 4],yo 17 (.un .not (.t 16)) [0, 1, 2, 3, 4, 5],ym 18 17 [0, 1, 2, 3, 4, 5, 6],yf 19 18 (.mov (.t 0)) [0, 1, 2, 3, 4, 5, 6, 7],yf 20 18 (.mov (.t 3)) [0, 1, 2, 3, 4, 5, 6, 7],yf 21 18 (.iaddr 2 (.t 19) (.t 20)) [0, 1, 2, 3, 4, 5, 6, 7, 8, 9],yf 22 18 (.faddr 1 (.t 21)) [0, 1, 2, 3, 4, 5, 6, 7, 8, 9, 10],yf 23 18 (.load false 1 (.t 22)) [0, 1, 2, 3, 4, 5, 6, 7, 8, 9, 10, 11],yf 24 18 (.call 66 [(true, (.t 23))]) [0, 1, 2, 3, 4, 5, 6, 7, 8, 9, 10, 11, 12],yf 25 18 (.un .not (.t 24)) [0, 1, 2, 3, 4, 5, 6, 7, 8, 9, 10, 11, 12, 13],yo 26 (.pick (.t 18) kt (.t 25)) [0, 1, 2, 3, 4, 5, 6, 7, 8, 9, 10, 11, 12, 13, 14],ym 27 26 [0, 1, 2, 3, 4, 5, 6, 7, 8, 9, 10, 11, 12, 13, 14, 15],yf 28 27 (.mov (.t 0)) [0, 1, 2, 3, 4, 5, 6, 7, 8, 9, 10, 11, 12, 13, 14, 15, 16],yf 29 27 (.mov (.t 3)) [0, 1, 2, 3, 4, 5, 6, 7, 8, 9, 10, 11, 12, 13, 14, 15, 16],yf 30 27 (.iaddr 2 (.t 28) (.t 29)) [0, 1, 2, 3, 4, 5, 6, 7, 8, 9, 10, 11, 12, 13, 14, 15, 16, 17, 18],yf 31 27 (.faddr 1 (.t 30)) [0, 1, 2, 3, 4, 5, 6, 7, 8, 9, 10, 11, 12, 13, 14, 15, 16, 17, 18, 19],yf 32 27 (.load false 1 (.t 31)) [0, 1, 2, 3, 4, 5, 6, 7, 8, 9, 10, 11, 12, 13, 14, 15, 16, 17, 18, 19, 20],yf 33 27 (.mov (.t 0)) [0, 1, 2, 3, 4, 5, 6, 7, 8, 9, 10, 11, 12, 13, 14, 15, 16],yf 34 27 (.mov (.t 3)) [0, 1, 2, 3, 4, 5, 6, 7, 8, 9, 10, 11, 12, 13, 14, 15, 16],yf 35 27 (.iaddr 2 (.t 33) (.t 34)) [0, 1, 2, 3, 4, 5, 6, 7, 8, 9, 10, 11, 12, 13, 14, 15, 16, 22, 23],yf 36 27 (.faddr 0 (.t 35)) [0, 1, 2, 3, 4, 5, 6, 7, 8, 9, 10, 11, 12, 13, 14, 15, 16, 22, 23, 24],yf 37 27 (.load false 1 (.t 36)) [0, 1, 2, 3, 4, 5, 6, 7, 8, 9, 10, 11, 12, 13, 14, 15, 16, 22, 23, 24, 25],yf 38 27 (.bin .lss 0 (.t 32) (.t 37)) [0, 1, 2, 3, 4, 5, 6, 7, 8, 9, 10, 11, 12, 13, 14, 15, 16, 17, 18, 19, 20, 21, 22, 23, 24, 25, 26],yo 39 (.pick (.t 27) kt (.t 38)) (rng 0 28)] (rng 11 28))
(.cond (.t 39) [39] (.seq (.reg [xo 2 (.mov kf)] [])
.ret) .skip))
(.seq (.reg [xm 40 3,xo 41 (.bin .gtr 0 (.t 40) (ki 0))] [40])
(.cond (.t 41) [41] (.seq (.reg [xm 42 0,xm 43 3,xo 44 (.bin .sub 0 (.t 43) (ki 1)),xo 45 (.iaddr 2 (.t 42) (.t 44)),xo 46 (.faddr 1 (.t 45)),xo 47 (.load false 1 (.t 46)),xo 48 (.call 96 [(true, (.t 47))]),xo 4 (.new [(.int .i64 0),(.bool false)]),xn (.store false 2 (.t 4) (.t 48))] (rng 42 7))
(.seq (.dreg [xo 49 (.faddr 1 (.t 4)),yo 50 (.load false 1 (.t 49)) [0],yo 51 (.un .not (.t 50)) [0, 1],ym 52 51 [0, 1, 2],yf 53 52 (.mov (.t 0)) [0, 1, 2, 3],yf 54 52 (.mov (.t 3)) [0, 1, 2, 3],yf 55 52 (.iaddr 2 (.t 53) (.t 54)) [0, 1, 2, 3, 4, 5],yf 56 52 (.faddr 0 (.t 55)) [0, 1, 2, 3, 4, 5, 6],yf 57 52 (.load false 1 (.t 56)) [0, 1, 2, 3, 4, 5, 6, 7],yf 58 52 (.faddr 0 (.t 4)) [0, 1, 2, 3],yf 59 52 (.load false 1 (.t 58)) [0, 1, 2, 3, 9],yf 60 52 (.bin .leq 0 (.t 57) (.t 59)) [0, 1, 2, 3, 4, 5, 6, 7, 8, 9, 10],yo 61 (.pick (.t 52) kt (.t 60)) (rng 0 12)] (rng 49 12))
(.cond (.t 61) [61] (.seq (.reg [xo 2 (.mov kf)] [])
.ret) .skip))) .skip))))
(.reg [xm 9 3,xo 10 (.bin .add 0 (.t 9) (ki 1)),xm 3 10] [9,10]))))))
(.seq (.reg [xo 2 (.mov kt)] [])
.ret)))
/-- caesura/caesuraref03.Good -/
def fn57 : AFn := ⟨1, 62, c57, [(.t 2)], 0⟩
theorem fn57_body : fn57.body = c57 := rfl
theorem fn57_res : fn57.res = [(.t 2)] := rfl
theorem fn57_keep : fn57.keep = 0 := rfl
def c58 : ACode :=
(.seq (.reg [xo 3 (.box (.t 1)),xo 4 (.mov kf)] [])
(.seq (.reg [xm 5 0,xo 6 (.call 56 [(true, (.t 5))]),xm 7 6,xt 8 7 (.load false 1 (.t 3)),xt 9 7 (.call 97 [(true, (.t 8))]),xo 10 (.pick (.t 7) (.t 9) kf),xm 11 10,xt 12 11 (.mov (.t 0)),xt 13 11 (.mkf 99 [(.t 3)]),xt 14 11 (.call 98 [(true, (.t 12)),(false, (.t 13))]),xo 15 (.pick (.t 11) (.t 14) kf),xm 4 15] (rng 5 11))
.ret))
/-- caesura/sets.Has -/
def fn58 : AFn := ⟨2, 16, c58, [(.t 4)], 0⟩
theorem fn58_body : fn58.body = c58 := rfl
theorem fn58_res : fn58.res = [(.t 4)] := rfl
theorem fn58_keep : fn58.keep = 0 := rfl
def c62 : ACode :=
(.seq (.reg [xo 4 (.mov kf)] [])
(.seq (.seq (.reg [xm 7 0,xo 8 (.len 1 (.t 7)),xm 9 1,xo 10 (.len 1 (.t 9)),xo 11 (.bin .neq 0 (.t 8) (.t 10))] (rng 7 4))
(.cond (.t 11) [11] (.seq (.reg [xo 4 (.mov kf)] [])
.ret) .skip))
(.seq (.seq (.reg [xm 12 0,xo 13 (.len 1 (.t 12)),xo 14 (.mov (ki 0))] [])
(.block 0 (.loop false (.seq (.reg [xo 15 (.bin .lss 0 (.t 14) (.t 13))] [])
(.seq (.cond (.t 15) [15] .skip (.exit 0))
(.seq (.block 1 (.seq (.reg [xm 16 14,xo 17 (.iaddr 2 (.t 12) (.t 14)),xo 18 (.load true 2 (.t 17)),xo 6 (.new [(.int .i64 0),(.int .i64 0)]),xm 5 16,xn (.store false 2 (.t 6) (.t 18))] [16,17,18])
(.seq (.dreg [xo 19 (.load true 2 (.t 6)),xm 20 1,xm 21 5,yo 22 (.iaddr 2 (.t 20) (.t 21)) [1, 2],yo 23 (.load true 2 (.t 22)) [1, 2, 3],yo 24 (.bins .neq [0,0] (.t 19) (.t 23)) (rng 0 5)] (rng 19 5))
(.cond (.t 24) [24] (.seq (.reg [xo 4 (.mov kf)] [])
.ret) .skip))))
(.reg [xo 25 (.bin .add 0 (.t 14) (ki 1)),xm 14 25] [25])))))))
(.seq (.reg [xo 4 (.mov kt)] [])
.ret))))
/-- caesura/sets.Same -/
def fn62 : AFn := ⟨2, 26, c62, [(.t 4)], 0⟩
theorem fn62_body : fn62.body = c62 := rfl
theorem fn62_res : fn62.res = [(.t 4)] := rfl
theorem fn62_keep : fn62.keep = 0 := rfl
def c63 : ACode :=
(.seq (.reg [xo 4 (.mov kf)] [])
(.seq (.seq (.reg [xm 6 0,xo 7 (.len 1 (.t 6)),xm 8 1,xo 9 (.len 1 (.t 8)),xo 10 (.bin .neq 0 (.t 7) (.t 9))] (rng 6 4))
(.cond (.t 10) [10] (.seq (.reg [xo 4 (.mov kf)] [])
.ret) .skip))
(.seq (.seq (.reg [xo 5 (.mov (ki 0))] [])
(.block 0 (.loop false (.seq (.seq (.reg [xm 11 5,xm 12 0,xo 13 (.len 1 (.t 12)),xo 14 (.bin .lss 0 (.t 11) (.t 13))] [11,12,13])
(.cond (.t 14) [14] .skip (.exit 0)))
(.seq (.block 1 (.seq (.dreg [xm 17 0,xm 18 5,yo 19 (.iaddr 2 (.t 17) (.t 18)) [0, 1],yo 20 (.load true 2 (.t 19)) [0, 1, 2],xm 21 1,xm 22 5,yo 23 (.iaddr 2 (.t 21) (.t 22)) [4, 5],yo 24 (.load true 2 (.t 23)) [4, 5, 6],yo 25 (.bins .neq [0,0] (.t 20) (.t 24)) (rng 0 8)] (rng 17 8))
(.cond (.t 25) [25] (.seq (.reg [xo 4 (.mov kf)] [])
.ret) .skip)))
(.reg [xm 15 5,xo 16 (.bin .add 0 (.t 15) (ki 1)),xm 5 16] [15,16]))))))
(.seq (.reg [xo 4 (.mov kt)] [])
.ret))))
/-- caesura/caesurakeep.Set -/
def fn63 : AFn := ⟨2, 26, c63, [(.t 4)], 0⟩
theorem fn63_body : fn63.body = c63 := rfl
theorem fn63_res : fn63.res = [(.t 4)] := rfl
theorem fn63_keep : fn63.keep = 0 := rfl
def c66 : ACode :=
(.seq (.reg [xo 2 (.mov kf)] [])
(.seq (.reg [xm 3 0,xo 4 (.bin .geq 0 (.t 3) (ki 0)),xm 5 4,xt 6 5 (.mov (.t 0)),xt 7 5 (.bin .lss 0 (.t 6) (ki 55296)),xo 8 (.pick (.t 5) (.t 7) kf),xm 9 8,xf 10 9 (.mov (.t 0)),xf 11 9 (.bin .geq 0 (.t 10) (ki 57344)),xf 12 9 (.mov (.t 11)),xt 13 12 (.mov (.t 0)),xt 14 12 (.bin .leq 0 (.t 13) (ki 1114111)),xf 15 9 (.pick (.t 12) (.t 14) kf),xo 16 (.pick (.t 9) kt (.t 15)),xm 2 16] (rng 3 14))
.ret))
/-- caesura/caesuraref01.Is -/
def fn66 : AFn := ⟨1, 17, c66, [(.t 2)], 0⟩
theorem fn66_body : fn66.body = c66 := rfl
theorem fn66_res : fn66.res = [(.t 2)] := rfl
theorem fn66_keep : fn66.keep = 0 := rfl
def c67 : ACode :=
(.seq (.reg [xo 6 (.anil 48 5),xo 7 (.mov kf)] [])
(.seq (.seq (.reg [xm 9 1,xo 10 (.call 29 [(true, (.t 9))]),xo 11 (.un .not (.t 10)),xm 12 11,xf 13 12 (.mov (.t 2)),xf 14 12 (.call 29 [(true, (.t 13))]),xf 15 12 (.un .not (.t 14)),xo 16 (.pick (.t 12) kt (.t 15)),xm 17 16,xf 18 17 (.mov (.t 1)),xf 19 17 (.len 1 (.t 18)),xf 20 17 (.mov (.t 2)),xf 21 17 (.len 1 (.t 20)),xf 22 17 (.bin .add 0 (.t 19) (.t 21)),xf 23 17 (.bin .add 0 (.t 22) (ki 1)),xf 24 17 (.bin .gtr 0 (.t 23) (ki 40000)),xo 25 (.pick (.t 17) kt (.t 24))] (rng 9 16))
(.cond (.t 25) [25] (.seq (.reg [xo 6 (.anil 48 5),xo 7 (.mov kf)] [])
.ret) .skip))
(.seq (.reg [xm 26 1,xo 27 (.call 68 [(true, (.t 26)),(true, (ki 0))]),xm 28 2,xm 29 1,xo 30 (.len 1 (.t 29)),xo 31 (.call 68 [(true, (.t 28)),(true, (.t 30))]),xo 32 (.app 48 5 64 (.t 27) (.t 31)),xm 8 32] (rng 26 7))
(.seq (.reg [xm 33 8,xm 34 0,xm 35 1,xo 36 (.len 1 (.t 35)),xo 37 (.bin .sub 0 (.t 36) (ki 1)),xm 38 8,xo 39 (.len 1 (.t 38)),xo 40 (.bin .sub 0 (.t 39) (ki 1)),⟨(some 41), none, .agg [(.int .i64 0),(.int .i64 0),(.int .i64 0),(.list 2 []),(.str ⟨#[]⟩)] [(0, 1, (.t 34)),(1, 1, (.t 37)),(2, 1, (.t 40))], []⟩,⟨(some 42), none, .mkl 48 5 [(.int .i64 0),(.int .i64 0),(.int .i64 0),(.list 2 []),(.str ⟨#[]⟩)] 1 [(0, (.t 41))] false, []⟩,xo 43 (.app 48 5 64 (.t 33) (.t 42)),xm 6 43,xo 7 (.mov kt)] (rng 33 11))
.ret))))
/-- caesura/tree.pair -/
def fn67 : AFn := ⟨3, 44, c67, [(.t 6),(.t 7)], 0⟩
theorem fn67_body : fn67.body = c67 := rfl
theorem fn67_res : fn67.res = [(.t 6), (.t 7)] := rfl
theorem fn67_keep : fn67.keep = 0 := rfl
def c68 : ACode :=
(.seq (.reg [xo 4 (.anil 48 5)] [])
(.seq (.reg [xm 8 0,xo 9 (.call 77 [(true, (.t 8))]),xm 5 9] [8,9])
(.seq (.seq (.reg [xm 10 5,xo 11 (.len 1 (.t 10)),xo 12 (.mov (ki 0))] [10])
(.block 0 (.loop false (.seq (.reg [xo 13 (.bin .lss 0 (.t 12) (.t 11))] [])
(.seq (.cond (.t 13) [13] .skip (.exit 0))
(.seq (.block 1 (.seq (.reg [xm 14 12,xm 6 14] [14])
(.seq (.reg [xm 15 5,xm 16 6,xo 17 (.iaddr 5 (.t 15) (.t 16)),xm 7 17] [15,16,17])
(.seq (.reg [xm 18 7,xm 19 7,xo 20 (.nilck (.t 19)),xo 21 (.faddr 3 (.t 20)),xo 22 (.load false 1 (.t 21)),xo 23 (.call 69 [(true, (.t 22))]),xo 24 (.nilck (.t 18)),xo 25 (.faddr 3 (.t 24)),xn (.store false 1 (.t 25) (.t 23))] (rng 18 8))
(.seq (.reg [xm 26 7,xo 27 (.nilck (.t 26)),xo 28 (.faddr 0 (.t 27)),xo 29 (.load false 1 (.t 28))] [26,27,28])
(.block 2 (.seq (.seq (.reg [xo 31 (.bin .eql 0 (.t 29) (ki 3)),xm 30 31] [31])
(.cond (.t 30) [] .skip (.reg [xo 32 (.bin .eql 0 (.t 29) (ki 4)),xm 30 32] [32])))
(.cond (.t 30) [] (.seq (.reg [xm 33 7,xo 34 (.nilck (.t 33)),xo 35 (.faddr 1 (.t 34)),xo 36 (.load false 1 (.t 35)),xm 37 1,xo 38 (.bin .add 0 (.t 36) (.t 37)),xo 39 (.nilck (.t 33)),xo 40 (.faddr 1 (.t 39)),xn (.store false 1 (.t 40) (.t 38))] (rng 33 8))
(.reg [xm 41 7,xo 42 (.nilck (.t 41)),xo 43 (.faddr 2 (.t 42)),xo 44 (.load false 1 (.t 43)),xm 45 1,xo 46 (.bin .add 0 (.t 44) (.t 45)),xo 47 (.nilck (.t 41)),xo 48 (.faddr 2 (.t 47)),xn (.store false 1 (.t 48) (.t 46))] (rng 41 8))) (.seq (.reg [xo 50 (.bin .eql 0 (.t 29) (ki 5)),xm 49 50] [50])
(.cond (.t 49) [49] (.reg [xm 51 7,xo 52 (.nilck (.t 51)),xo 53 (.faddr 1 (.t 52)),xo 54 (.load false 1 (.t 53)),xm 55 1,xo 56 (.bin .add 0 (.t 54) (.t 55)),xo 57 (.nilck (.t 51)),xo 58 (.faddr 1 (.t 57)),xn (.store false 1 (.t 58) (.t 56))] (rng 51 8)) .skip))))))))))
(.reg [xo 59 (.bin .add 0 (.t 12) (ki 1)),xm 12 59] [59])))))))
(.seq (.reg [xm 60 5,xm 4 60] [60])
.ret))))
/-- caesura/tree.moved -/
def fn68 : AFn := ⟨2, 61, c68, [(.t 4)], 1⟩
theorem fn68_body : fn68.body = c68 := rfl
theorem fn68_res : fn68.res = [(.t 4)] := rfl
theorem fn68_keep : fn68.keep = 1 := rfl
def c69 : ACode :=
(.seq (.reg [xo 2 (.anil 70 2)] [])
(.seq (.seq (.reg [xm 3 0,xo 4 (.isnil false (.t 3))] [3])
(.cond (.t 4) [4] (.seq (.reg [xo 2 (.anil 70 2)] [])
.ret) .skip))
(.seq (.reg [xo 5 (.mkl 70 2 [(.int .i64 0),(.int .i64 0)] 0 [] false),xm 6 0,xo 7 (.app 70 2 16 (.t 5) (.t 6)),xm 2 7] [5,6,7])
.ret)))
/-- slices.Clone[caesura/api.Set,caesura/api.Range] -/
def fn69 : AFn := ⟨1, 8, c69, [(.t 2)], 1⟩
theorem fn69_body : fn69.body = c69 := rfl
theorem fn69_res : fn69.res = [(.t 2)] := rfl
theorem fn69_keep : fn69.keep = 1 := rfl
def c70 : ACode :=
(.seq (.reg [xo 6 (.anil 48 5)] [])
(.seq (.reg [xo 7 (.anil 48 5)] [])
(.seq (.seq (.reg [xm 10 1,xm 8 10] [10])
(.block 0 (.loop false (.seq (.seq (.reg [xm 11 8,xm 12 2,xo 13 (.bin .leq 0 (.t 11) (.t 12))] [11,12])
(.cond (.t 13) [13] .skip (.exit 0)))
(.seq (.block 1 (.seq (.reg [xm 16 0,xm 17 8,xo 18 (.iaddr 5 (.t 16) (.t 17)),xo 19 (.load true 5 (.t 18)),⟨(some 9), none, .new [(.int .i64 0),(.int .i64 0),(.int .i64 0),(.list 2 []),(.str ⟨#[]⟩)], []⟩,xn (.store false 5 (.t 9) (.t 19))] (rng 16 4))
(.seq (.seq (.reg [xo 20 (.faddr 0 (.t 9)),xo 21 (.load false 1 (.t 20))] [20])
(.block 2 (.seq (.reg [xo 23 (.bin .eql 0 (.t 21) (ki 5)),xm 22 23] [23])
(.cond (.t 22) [22] (.reg [xo 24 (.faddr 1 (.t 9)),xo 25 (.load false 1 (.t 24)),xm 26 1,xo 27 (.bin .sub 0 (.t 25) (.t 26)),xo 28 (.faddr 1 (.t 9)),xn (.store false 1 (.t 28) (.t 27))] (rng 24 5)) (.seq (.seq (.reg [xo 30 (.bin .eql 0 (.t 21) (ki 3)),xm 29 30] [30])
(.cond (.t 29) [] .skip (.reg [xo 31 (.bin .eql 0 (.t 21) (ki 4)),xm 29 31] [31])))
(.cond (.t 29) [] (.seq (.reg [xo 32 (.faddr 1 (.t 9)),xo 33 (.load false 1 (.t 32)),xm 34 1,xo 35 (.bin .sub 0 (.t 33) (.t 34)),xo 36 (.faddr 1 (.t 9)),xn (.store false 1 (.t 36) (.t 35))] (rng 32 5))
(.reg [xo 37 (.faddr 2 (.t 9)),xo 38 (.load false 1 (.t 37)),xm 39 1,xo 40 (.bin .sub 0 (.t 38) (.t 39)),xo 41 (.faddr 2 (.t 9)),xn (.store false 1 (.t 41) (.t 40))] (rng 37 5))) .skip))))))
(.seq (.reg [xo 42 (.mkl 70 2 [(.int .i64 0),(.int .i64 0)] 0 [] false),xo 43 (.faddr 3 (.t 9)),xo 44 (.load false 1 (.t 43)),xo 45 (.app 70 2 16 (.t 42) (.t 44)),xo 46 (.faddr 3 (.t 9)),xn (.store false 1 (.t 46) (.t 45))] (rng 42 5))
(.reg [xm 47 7,xo 48 (.load true 5 (.t 9)),⟨(some 49), none, .mkl 48 5 [(.int .i64 0),(.int .i64 0),(.int .i64 0),(.list 2 []),(.str ⟨#[]⟩)] 1 [(0, (.t 48))] false, []⟩,xo 50 (.app 48 5 64 (.t 47) (.t 49)),xm 7 50] (rng 47 4))))))
(.reg [xm 14 8,xo 15 (.bin .add 0 (.t 14) (ki 1)),xm 8 15] [14,15]))))))
(.seq (.reg [xm 51 7,xm 6 51] [51])
.ret))))
/-- caesura/caesuraref11.Beneath -/
def fn70 : AFn := ⟨3, 52, c70, [(.t 6)], 1⟩
theorem fn70_body : fn70.body = c70 := rfl
theorem fn70_res : fn70.res = [(.t 6)] := rfl
theorem fn70_keep : fn70.keep = 1 := rfl
def c71 : ACode :=
(.seq (.reg [xo 2 (.anil 3 1),xo 3 (.mov kf)] [])
(.seq (.reg [xm 7 0,xo 8 (.len 1 (.t 7)),xo 9 (.mks 3 1 8 [(.int .i64 0)] (.t 8)),xm 4 9] [7,8,9])
(.seq (.seq (.reg [xm 10 0,xo 11 (.len 1 (.t 10)),xo 12 (.mov (ki 0))] [])
(.block 0 (.loop false (.seq (.reg [xo 13 (.bin .lss 0 (.t 12) (.t 11))] [])
(.seq (.cond (.t 13) [13] .skip (.exit 0))
(.seq (.block 1 (.seq (.reg [xm 14 12,xo 15 (.iaddr 5 (.t 10) (.t 12)),xo 16 (.load true 5 (.t 15)),⟨(some 6), none, .new [(.int .i64 0),(.int .i64 0),(.int .i64 0),(.list 2 []),(.str ⟨#[]⟩)], []⟩,xm 5 14,xn (.store false 5 (.t 6) (.t 16))] [14,15,16])
(.seq (.reg [xo 17 (.faddr 0 (.t 6)),xo 18 (.load false 1 (.t 17))] [17])
(.block 2 (.seq (.seq (.reg [xo 27 (.bin .eql 0 (.t 18) (ki 3)),xm 26 27] [27])
(.cond (.t 26) [] .skip (.reg [xo 28 (.bin .eql 0 (.t 18) (ki 4)),xm 26 28] [28])))
(.cond (.t 26) [] (.seq (.seq (.dreg [xm 29 5,yo 30 (.bin .lss 0 (.t 29) (ki 2)) [0],ym 31 30 [0, 1],yf 32 31 (.faddr 2 (.t 6)) [0, 1, 2],yf 33 31 (.load false 1 (.t 32)) [0, 1, 2, 3],yf 34 31 (.mov (.t 5)) [0, 1, 2],yf 35 31 (.bin .sub 0 (.t 34) (ki 1)) [0, 1, 2, 5],yf 36 31 (.bin .neq 0 (.t 33) (.t 35)) [0, 1, 2, 3, 4, 5, 6],yo 37 (.pick (.t 31) kt (.t 36)) [0, 1, 2, 3, 4, 5, 6, 7],ym 38 37 [0, 1, 2, 3, 4, 5, 6, 7, 8],yf 39 38 (.faddr 1 (.t 6)) [0, 1, 2, 3, 4, 5, 6, 7, 8, 9],yf 40 38 (.load false 1 (.t 39)) [0, 1, 2, 3, 4, 5, 6, 7, 8, 9, 10],yf 41 38 (.mov (.t 4)) [0, 1, 2, 3, 4, 5, 6, 7, 8, 9],yf 42 38 (.faddr 2 (.t 6)) [0, 1, 2, 3, 4, 5, 6, 7, 8, 9],yf 43 38 (.load false 1 (.t 42)) [0, 1, 2, 3, 4, 5, 6, 7, 8, 9, 13],yf 44 38 (.iaddr 1 (.t 41) (.t 43)) [0, 1, 2, 3, 4, 5, 6, 7, 8, 9, 12, 13, 14],yf 45 38 (.load false 1 (.t 44)) [0, 1, 2, 3, 4, 5, 6, 7, 8, 9, 12, 13, 14, 15],yf 46 38 (.bin .sub 0 (.t 45) (ki 1)) [0, 1, 2, 3, 4, 5, 6, 7, 8, 9, 12, 13, 14, 15, 16],yf 47 38 (.bin .neq 0 (.t 40) (.t 46)) [0, 1, 2, 3, 4, 5, 6, 7, 8, 9, 10, 11, 12, 13, 14, 15, 16, 17],yo 48 (.pick (.t 38) kt (.t 47)) [0, 1, 2, 3, 4, 5, 6, 7, 8, 9, 10, 11, 12, 13, 14, 15, 16, 17, 18],ym 49 48 [0, 1, 2, 3, 4, 5, 6, 7, 8, 9, 10, 11, 12, 13, 14, 15, 16, 17, 18, 19],yf 50 49 (.faddr 1 (.t 6)) [0, 1, 2, 3, 4, 5, 6, 7, 8, 9, 10, 11, 12, 13, 14, 15, 16, 17, 18, 19, 20],yf 51 49 (.load false 1 (.t 50)) [0, 1, 2, 3, 4, 5, 6, 7, 8, 9, 10, 11, 12, 13, 14, 15, 16, 17, 18, 19, 20, 21],yf 52 49 (.bin .lss 0 (.t 51) (ki 0)) [0, 1, 2, 3, 4, 5, 6, 7, 8, 9, 10, 11, 12, 13, 14, 15, 16, 17, 18, 19, 20, 21, 22],yo 53 (.pick (.t 49) kt (.t 52)) [0, 1, 2, 3, 4, 5, 6, 7, 8, 9, 10, 11, 12, 13, 14, 15, 16, 17, 18, 19, 20, 21, 22, 23],ym 54 53 [0, 1, 2, 3, 4, 5, 6, 7, 8, 9, 10, 11, 12, 13, 14, 15, 16, 17, 18, 19, 20, 21, 22, 23, 24],yf 55 54 (.load true 5 (.t 6)) [0, 1, 2, 3, 4, 5, 6, 7, 8, 9, 10, 11, 12, 13, 14, 15, 16, 17, 18, 19, 20, 21, 22, 23, 24, 25],yf 56 54 (.call 103 [(true, (.t 55))]) [0, 1, 2, 3, 4, 5, 6, 7, 8, 9, 10, 11, 12, 13, 14, 15, 16, 17, 18, 19, 20, 21, 22, 23, 24, 25, 26],yf 57 54 (.un .not (.t 56)) [0, 1, 2, 3, 4, 5, 6, 7, 8, 9, 10, 11, 12, 13, 14, 15, 16, 17, 18, 19, 20, 21, 22, 23, 24, 25, 26, 27],yo 58 (.pick (.t 54) kt (.t 57)) (rng 0 29)] (rng 29 29))
(.cond (.t 58) [58] (.seq (.reg [xo 2 (.anil 3 1),xo 3 (.mov kf)] [])
.ret) .skip))
(.reg [xm 59 4,xm 60 5,xm 61 4,xo 62 (.faddr 1 (.t 6)),xo 63 (.load false 1 (.t 62)),xo 64 (.iaddr 1 (.t 61) (.t 63)),xo 65 (.load false 1 (.t 64)),xo 66 (.iaddr 1 (.t 59) (.t 60)),xn (.store false 1 (.t 66) (.t 65))] (rng 59 8))) (.seq (.reg [xo 68 (.bin .eql 0 (.t 18) (ki 5)),xm 67 68] [68])
(.cond (.t 67) [67] (.seq (.seq (.reg [xm 69 5,xo 70 (.bin .lss 0 (.t 69) (ki 1)),xm 71 70,xf 72 71 (.faddr 1 (.t 6)),xf 73 71 (.load false 1 (.t 72)),xf 74 71 (.mov (.t 5)),xf 75 71 (.bin .sub 0 (.t 74) (ki 1)),xf 76 71 (.bin .neq 0 (.t 73) (.t 75)),xo 77 (.pick (.t 71) kt (.t 76)),xm 78 77,xf 79 78 (.faddr 2 (.t 6)),xf 80 78 (.load false 1 (.t 79)),xf 81 78 (.bin .neq 0 (.t 80) (ki 0)),xo 82 (.pick (.t 78) kt (.t 81)),xm 83 82,xf 84 83 (.load true 5 (.t 6)),xf 85 83 (.call 103 [(true, (.t 84))]),xf 86 83 (.un .not (.t 85)),xo 87 (.pick (.t 83) kt (.t 86))] (rng 69 18))
(.cond (.t 87) [87] (.seq (.reg [xo 2 (.anil 3 1),xo 3 (.mov kf)] [])
.ret) .skip))
(.reg [xm 88 4,xm 89 5,xm 90 4,xo 91 (.faddr 1 (.t 6)),xo 92 (.load false 1 (.t 91)),xo 93 (.iaddr 1 (.t 90) (.t 92)),xo 94 (.load false 1 (.t 93)),xo 95 (.iaddr 1 (.t 88) (.t 89)),xn (.store false 1 (.t 95) (.t 94))] (rng 88 8))) (.seq (.seq (.reg [xo 19 (.load true 5 (.t 6)),xo 20 (.call 104 [(true, (.t 19))]),xo 21 (.un .not (.t 20))] [19,20])
(.cond (.t 21) [21] (.seq (.reg [xo 2 (.anil 3 1),xo 3 (.mov kf)] [])
.ret) .skip))
(.reg [xm 22 4,xm 23 5,xm 24 5,xo 25 (.iaddr 1 (.t 22) (.t 23)),xn (.store false 1 (.t 25) (.t 24))] (rng 22 4)))))))))))
(.reg [xo 96 (.bin .add 0 (.t 12) (ki 1)),xm 12 96] [96])))))))
(.seq (.reg [xm 97 4,xm 2 97,xo 3 (.mov kt)] [97])
.ret))))
/-- caesura/tree.begins -/
def fn71 : AFn := ⟨1, 98, c71, [(.t 2),(.t 3)], 0⟩
theorem fn71_body : fn71.body = c71 := rfl
theorem fn71_res : fn71.res = [(.t 2), (.t 3)] := rfl
theorem fn71_keep : fn71.keep = 0 := rfl
def c72 : ACode :=
(.seq (.reg [xo 8 (.mov kf)] [])
(.seq (.reg [xm 13 1,xm 14 2,xm 15 3,xo 16 (.agg [(.int .i64 0),(.int .i64 0),(.int .i64 0)] [(0, 1, (.t 13)),(1, 1, (.t 14)),(2, 1, (.t 15))]),xo 9 (.new [(.int .i64 0),(.int .i64 0),(.int .i64 0)]),xn (.store false 3 (.t 9) (.t 16))] (rng 13 4))
(.seq (.seq (.dreg [xm 18 0,yo 19 (.nilck (.t 18)) [0],yo 20 (.faddr 2 (.t 19)) [0, 1],yo 21 (.load false 1 (.t 20)) [0, 1, 2],xo 22 (.load true 3 (.t 9)),yo 23 (.look 3 [0,0,0] (.int .i64 0) true (.t 21) (.t 22)) [0, 1, 2, 3, 4],ym 17 23 [0, 1, 2, 3, 4, 5],yo 24 (.ext (.t 17) 0) [0, 1, 2, 3, 4, 5, 6],yo 25 (.ext (.t 17) 1) [0, 1, 2, 3, 4, 5, 6],ym 10 24 [0, 1, 2, 3, 4, 5, 6, 7],ym 11 25 (rng 0 10)] (rng 17 9))
(.seq (.reg [xm 26 11] [])
(.cond (.t 26) [26] (.seq (.reg [xm 27 10,xo 28 (.bin .eql 0 (.t 27) (ki 1)),xm 8 28] [27,28])
.ret) .skip)))
(.seq (.reg [xm 29 0,xm 30 0,xo 31 (.nilck (.t 30)),xo 32 (.faddr 0 (.t 31)),xo 33 (.load false 1 (.t 32)),xm 34 1,xo 35 (.iaddr 5 (.t 33) (.t 34)),xo 36 (.load true 5 (.t 35)),xm 37 1,xm 38 2,xm 39 3,xo 40 (.call 105 [(false, (.t 29)),(true, (.t 36)),(true, (.t 37)),(true, (.t 38)),(true, (.t 39))]),xm 12 40] (rng 29 12))
(.seq (.dreg [xm 41 0,yo 42 (.nilck (.t 41)) [0],yo 43 (.faddr 2 (.t 42)) [0, 1],yo 44 (.load false 1 (.t 43)) [0, 1, 2],xo 45 (.load true 3 (.t 9)),⟨none, none, .mset 3 [0,0,0] (.t 44) (.t 45) (ki 0), [0, 1, 2, 3, 4]⟩] (rng 41 5))
(.seq (.seq (.reg [xm 46 12] [])
(.cond (.t 46) [46] (.dreg [xm 47 0,yo 48 (.nilck (.t 47)) [0],yo 49 (.faddr 2 (.t 48)) [0, 1],yo 50 (.load false 1 (.t 49)) [0, 1, 2],xo 51 (.load true 3 (.t 9)),⟨none, none, .mset 3 [0,0,0] (.t 50) (.t 51) (ki 1), [0, 1, 2, 3, 4]⟩] (rng 47 5)) .skip))
(.seq (.reg [xm 52 12,xm 8 52] [52])
.ret)))))))
/-- (*caesura/tree.taker).takes -/
def fn72 : AFn := ⟨4, 53, c72, [(.t 8)], 0⟩
theorem fn72_body : fn72.body = c72 := rfl
theorem fn72_res : fn72.res = [(.t 8)] := rfl
theorem fn72_keep : fn72.keep = 0 := rfl
def c74 : ACode :=
(.seq (.reg [xo 6 (.mov kf)] [])
(.seq (.seq (.reg [xm 10 0,xo 11 (.len 1 (.t 10)),xm 12 1,xo 13 (.len 1 (.t 12)),xo 14 (.bin .neq 0 (.t 11) (.t 13))] (rng 10 4))
(.cond (.t 14) [14] (.seq (.reg [xo 6 (.mov kf)] [])
.ret) .skip))
(.seq (.seq (.reg [xm 15 0,xo 16 (.len 1 (.t 15)),xo 17 (.mov (ki 0))] [])
(.block 0 (.loop false (.seq (.reg [xo 18 (.bin .lss 0 (.t 17) (.t 16))] [])
(.seq (.cond (.t 18) [18] .skip (.exit 0))
(.seq (.block 1 (.seq (.reg [xm 19 17,xo 20 (.iaddr 5 (.t 15) (.t 17)),xo 21 (.load true 5 (.t 20)),⟨(some 8), none, .new [(.int .i64 0),(.int .i64 0),(.int .i64 0),(.list 2 []),(.str ⟨#[]⟩)], []⟩,xm 7 19,xn (.store false 5 (.t 8) (.t 21))] [19,20,21])
(.seq (.reg [xm 22 1,xm 23 7,xo 24 (.iaddr 5 (.t 22) (.t 23)),xo 25 (.load true 5 (.t 24)),⟨(some 9), none, .new [(.int .i64 0),(.int .i64 0),(.int .i64 0),(.list 2 []),(.str ⟨#[]⟩)], []⟩,xn (.store false 5 (.t 9) (.t 25))] (rng 22 4))
(.seq (.reg [xm 26 2,xo 27 (.load true 5 (.t 8)),xo 28 (.load true 5 (.t 9)),xo 29 (.callv (.t 26) [(true, (.t 27)),(true, (.t 28))]),xo 30 (.un .not (.t 29))] (rng 26 4))
(.cond (.t 30) [30] (.seq (.reg [xo 6 (.mov kf)] [])
.ret) .skip)))))
(.reg [xo 31 (.bin .add 0 (.t 17) (ki 1)),xm 17 31] [31])))))))
(.seq (.reg [xo 6 (.mov kt)] [])
.ret))))
/-- slices.EqualFunc[caesura/api.Tree,caesura/api.Tree,caesura/api.Node,caesura/api.Node] -/
def fn74 : AFn := ⟨3, 32, c74, [(.t 6)], 0⟩
theorem fn74_body : fn74.body = c74 := rfl
theorem fn74_res : fn74.res = [(.t 6)] := rfl
theorem fn74_keep : fn74.keep = 0 := rfl
def c75 : ACode :=
(.seq (.reg [xo 2 (.box (.t 0)),xo 3 (.box (.t 1)),xo 4 (.mov kf)] [])
(.seq (.reg [xo 5 (.faddr 0 (.t 2)),xo 6 (.load false 1 (.t 5)),xo 7 (.faddr 0 (.t 3)),xo 8 (.load false 1 (.t 7)),xo 9 (.bin .eql 0 (.t 6) (.t 8)),xm 10 9,xt 11 10 (.faddr 1 (.t 2)),xt 12 10 (.load false 1 (.t 11)),xt 13 10 (.faddr 1 (.t 3)),xt 14 10 (.load false 1 (.t 13)),xt 15 10 (.bin .eql 0 (.t 12) (.t 14)),xo 16 (.pick (.t 10) (.t 15) kf),xm 17 16,xt 18 17 (.faddr 2 (.t 2)),xt 19 17 (.load false 1 (.t 18)),xt 20 17 (.faddr 2 (.t 3)),xt 21 17 (.load false 1 (.t 20)),xt 22 17 (.bin .eql 0 (.t 19) (.t 21)),xo 23 (.pick (.t 17) (.t 22) kf),xm 24 23,xt 25 24 (.faddr 4 (.t 2)),xt 26 24 (.load false 1 (.t 25)),xt 27 24 (.faddr 4 (.t 3)),xt 28 24 (.load false 1 (.t 27)),xt 29 24 (.bin .eql 0 (.t 26) (.t 28)),xo 30 (.pick (.t 24) (.t 29) kf),xm 31 30,xt 32 31 (.faddr 3 (.t 2)),xt 33 31 (.load false 1 (.t 32)),xt 34 31 (.faddr 3 (.t 3)),xt 35 31 (.load false 1 (.t 34)),xt 36 31 (.call 62 [(true, (.t 33)),(true, (.t 35))]),xo 37 (.pick (.t 31) (.t 36) kf),xm 4 37] (rng 5 33))
.ret))
/-- caesura/tree.Same$1 -/
def fn75 : AFn := ⟨2, 38, c75, [(.t 4)], 0⟩
theorem fn75_body : fn75.body = c75 := rfl
theorem fn75_res : fn75.res = [(.t 4)] := rfl
theorem fn75_keep : fn75.keep = 0 := rfl
def c76 : ACode :=
(.seq (.reg [xo 4 (.mov kf)] [])
(.seq (.reg [xm 5 0,xo 6 (.call 106 [(true, (.t 5))]),xo 7 (.fld false 0 1 (.t 6)),xm 8 1,xo 9 (.bin .eql 0 (.t 7) (.t 8)),xm 4 9] (rng 5 5))
.ret))
/-- caesura/smart.is -/
def fn76 : AFn := ⟨2, 10, c76, [(.t 4)], 0⟩
theorem fn76_body : fn76.body = c76 := rfl
theorem fn76_res : fn76.res = [(.t 4)] := rfl
theorem fn76_keep : fn76.keep = 0 := rfl
def c77 : ACode :=
(.seq (.reg [xo 2 (.anil 48 5)] [])
(.seq (.seq (.reg [xm 3 0,xo 4 (.isnil false (.t 3))] [3])
(.cond (.t 4) [4] (.seq (.reg [xo 2 (.anil 48 5)] [])
.ret) .skip))
(.seq (.reg [⟨(some 5), none, .mkl 48 5 [(.int .i64 0),(.int .i64 0),(.int .i64 0),(.list 2 []),(.str ⟨#[]⟩)] 0 [] false, []⟩,xm 6 0,xo 7 (.app 48 5 64 (.t 5) (.t 6)),xm 2 7] [5,6,7])
.ret)))
/-- slices.Clone[caesura/api.Tree,caesura/api.Node] -/
def fn77 : AFn := ⟨1, 8, c77, [(.t 2)], 1⟩
theorem fn77_body : fn77.body = c77 := rfl
theorem fn77_res : fn77.res = [(.t 2)] := rfl
theorem fn77_keep : fn77.keep = 1 := rfl
def c78 : ACode :=
(.seq (.reg [xo 2 (.anil 23 1)] [])
(.seq (.reg [xo 3 (.anil 23 1)] [])
(.seq (.seq (.reg [xm 6 0,xo 7 (.len 1 (.t 6)),xo 8 (.mov (ki 0))] [])
(.block 0 (.loop false (.seq (.reg [xo 9 (.bin .lss 0 (.t 8) (.t 7))] [])
(.seq (.cond (.t 9) [9] .skip (.exit 0))
(.seq (.block 1 (.seq (.reg [xo 10 (.iaddr 1 (.t 6) (.t 8)),xo 11 (.load false 1 (.t 10)),xo 5 (.new [(.list 5 [])]),xn (.store false 1 (.t 5) (.t 11))] [10,11])
(.seq (.reg [xm 12 3,xo 13 (.mkf 108 [(.t 5)]),xo 14 (.call 107 [(false, (.t 12)),(false, (.t 13))]),xo 15 (.un .not (.t 14))] [12,13,14])
(.cond (.t 15) [15] (.reg [xm 16 3,xo 17 (.load false 1 (.t 5)),xo 18 (.mkl 23 1 [(.list 5 [])] 1 [(0, (.t 17))] false),xo 19 (.app 23 1 24 (.t 16) (.t 18)),xm 3 19] (rng 16 4)) .skip))))
(.reg [xo 20 (.bin .add 0 (.t 8) (ki 1)),xm 8 20] [20])))))))
(.seq (.seq (.reg [xm 21 3,xo 22 (.call 107 [(false, (.t 21)),(false, (.k (.func 110 [])))])] [21])
(.cond (.t 22) [22] (.reg [xm 23 3,xo 24 (.call 111 [(false, (.t 23)),(true, (ki 1))]),xm 3 24] [23,24]) .skip))
(.seq (.reg [xm 25 3,xm 2 25] [25])
.ret)))))
/-- caesura/smart.once -/
def fn78 : AFn := ⟨1, 26, c78, [(.t 2)], 0⟩
theorem fn78_body : fn78.body = c78 := rfl
theorem fn78_res : fn78.res = [(.t 2)] := rfl
theorem fn78_keep : fn78.keep = 0 := rfl
def c79 : ACode :=
(.seq (.reg [xo 2 (.anil 23 1)] [])
(.seq (.seq (.reg [xm 6 0,xo 7 (.call 76 [(true, (.t 6)),(true, (ki 4))]),xo 8 (.un .not (.t 7))] [6,7])
(.cond (.t 8) [8] (.seq (.reg [xm 9 0,xo 10 (.mkl 23 1 [(.list 5 [])] 1 [(0, (.t 9))] false),xm 2 10] [9,10])
.ret) .skip))
(.seq (.reg [xm 12 0,xo 13 (.call 23 [(true, (.t 12))]),xm 11 13,xo 14 (.ext (.t 11) 0),xo 15 (.ext (.t 11) 1),xo 16 (.ext (.t 11) 2),xm 3 14,xm 4 15,xm 5 16] [5,11,12,13,14,15,16])
(.seq (.reg [xm 17 3,xo 18 (.call 79 [(true, (.t 17))]),xm 19 4,xo 20 (.call 79 [(true, (.t 19))]),xo 21 (.app 23 1 24 (.t 18) (.t 20)),xm 2 21] (rng 17 5))
.ret))))
/-- caesura/smart.members -/
def fn79 : AFn := ⟨1, 22, c79, [(.t 2)], 1⟩
theorem fn79_body : fn79.body = c79 := rfl
theorem fn79_res : fn79.res = [(.t 2)] := rfl
theorem fn79_keep : fn79.keep = 1 := rfl
def c80 : ACode :=
(.seq (.reg [xo 2 (.anil 48 5),xo 3 (.mov kf)] [])
(.seq (.reg [xm 9 0,xo 10 (.call 79 [(true, (.t 9))]),xo 11 (.call 111 [(false, (.t 10)),(true, (ki 1))]),xm 4 11] [9,10,11])
(.seq (.seq (.reg [xm 12 4,xo 13 (.len 1 (.t 12)),xo 14 (.bin .eql 0 (.t 13) (ki 0))] [12,13])
(.cond (.t 14) [14] (.seq (.reg [xo 15 (.call 34 [(true, (ki 1))]),xm 2 15,xo 3 (.mov kt)] [15])
.ret) .skip))
(.seq (.reg [xm 16 4,xo 17 (.iaddr 1 (.t 16) (ki 0)),xo 18 (.load false 1 (.t 17)),xm 5 18,xo 6 (.mov kt)] [16,17,18])
(.seq (.seq (.reg [xm 19 4,xo 20 (.slc 1 (.t 19) (some (ki 1)) none none),xo 21 (.len 1 (.t 20)),xo 22 (.mov (ki 0))] [19])
(.block 0 (.loop false (.seq (.reg [xo 23 (.bin .lss 0 (.t 22) (.t 21))] [])
(.seq (.cond (.t 23) [23] .skip (.exit 0))
(.seq (.block 1 (.seq (.reg [xo 24 (.iaddr 1 (.t 20) (.t 22)),xo 25 (.load false 1 (.t 24)),xm 8 25] [24,25])
(.seq (.reg [xm 27 5,xm 28 8,xo 29 (.call 39 [(true, (.t 27)),(true, (.t 28))]),xm 26 29,xo 30 (.ext (.t 26) 0),xo 31 (.ext (.t 26) 1),xm 5 30,xm 6 31] (rng 26 6))
(.seq (.reg [xm 32 6,xo 33 (.un .not (.t 32))] [32])
(.cond (.t 33) [33] (.seq (.reg [xo 2 (.anil 48 5),xo 3 (.mov kf)] [])
.ret) .skip)))))
(.reg [xo 34 (.bin .add 0 (.t 22) (ki 1)),xm 22 34] [34])))))))
(.seq (.reg [xm 35 5,xm 2 35,xo 3 (.mov kt)] [35])
.ret))))))
/-- caesura/smart.full -/
def fn80 : AFn := ⟨1, 36, c80, [(.t 2),(.t 3)], 0⟩
theorem fn80_body : fn80.body = c80 := rfl
theorem fn80_res : fn80.res = [(.t 2), (.t 3)] := rfl
theorem fn80_keep : fn80.keep = 0 := rfl
def c81 : ACode :=
(.seq (.reg [xo 2 (.mov (ki 0))] [])
(.seq (.reg [xm 3 0,xm 4 0,xo 5 (.len 1 (.t 4)),xo 6 (.bin .sub 0 (.t 5) (ki 1)),xo 7 (.iaddr 5 (.t 3) (.t 6)),xo 8 (.faddr 0 (.t 7)),xo 9 (.load false 1 (.t 8)),xm 2 9] (rng 3 7))
.ret))
/-- caesura/caesuraref12.kind -/
def fn81 : AFn := ⟨1, 10, c81, [(.t 2)], 0⟩
theorem fn81_body : fn81.body = c81 := rfl
theorem fn81_res : fn81.res = [(.t 2)] := rfl
theorem fn81_keep : fn81.keep = 0 := rfl
def c82 : ACode :=
(.seq (.reg [xo 2 (.anil 48 5)] [])
(.seq (.reg [xo 3 (.anil 23 1)] [])
(.seq (.reg [xo 4 (.mov kf)] [])
(.seq (.seq (.reg [xo 5 (.mov (ki 0))] [])
(.block 0 (.loop false (.seq (.seq (.reg [xm 11 5,xm 12 0,xo 13 (.len 1 (.t 12)),xo 14 (.bin .lss 0 (.t 11) (.t 13))] [11,12,13])
(.cond (.t 14) [14] .skip (.exit 0)))
(.seq (.block 1 (.reg [xm 17 4,xm 18 17,xf 19 18 (.mov (.t 0)),xf 20 18 (.mov (.t 5)),xf 21 18 (.iaddr 1 (.t 19) (.t 20)),xf 22 18 (.load false 1 (.t 21)),xf 23 18 (.call 81 [(true, (.t 22))]),xf 24 18 (.bin .eql 0 (.t 23) (ki 5)),xo 25 (.pick (.t 18) kt (.t 24)),xm 4 25] (rng 17 9)))
(.reg [xm 15 5,xo 16 (.bin .add 0 (.t 15) (ki 1)),xm 5 16] [15,16]))))))
(.seq (.seq (.reg [xo 6 (.mov (ki 0))] [])
(.block 2 (.loop false (.seq (.seq (.reg [xm 26 6,xm 27 0,xo 28 (.len 1 (.t 27)),xo 29 (.bin .lss 0 (.t 26) (.t 28))] [26,27,28])
(.cond (.t 29) [29] .skip (.exit 2)))
(.seq (.block 3 (.seq (.reg [xo 7 (.mov kf)] [])
(.seq (.seq (.reg [xo 8 (.mov (ki 0))] [])
(.block 4 (.loop false (.seq (.seq (.reg [xm 32 8,xm 33 3,xo 34 (.len 1 (.t 33)),xo 35 (.bin .lss 0 (.t 32) (.t 34))] [32,33,34])
(.cond (.t 35) [35] .skip (.exit 4)))
(.seq (.block 5 (.dreg [xm 38 7,ym 39 38 [0],yf 40 39 (.mov (.t 3)) [0, 1],yf 41 39 (.mov (.t 8)) [0, 1],yf 42 39 (.iaddr 1 (.t 40) (.t 41)) [0, 1, 2, 3],yf 43 39 (.load false 1 (.t 42)) [0, 1, 2, 3, 4],yf 44 39 (.mov (.t 0)) [0, 1],yf 45 39 (.mov (.t 6)) [0, 1],yf 46 39 (.iaddr 1 (.t 44) (.t 45)) [0, 1, 6, 7],yf 47 39 (.load false 1 (.t 46)) [0, 1, 6, 7, 8],yf 48 39 (.call 112 [(true, (.t 43)),(true, (.t 47))]) [0, 1, 2, 3, 4, 5, 6, 7, 8, 9],yo 49 (.pick (.t 39) kt (.t 48)) [0, 1, 2, 3, 4, 5, 6, 7, 8, 9, 10],ym 7 49 (rng 0 12)] (rng 38 12)))
(.reg [xm 36 8,xo 37 (.bin .add 0 (.t 36) (ki 1)),xm 8 37] [36,37]))))))
(.seq (.reg [xm 50 7,xo 51 (.un .not (.t 50)),xm 52 51,xt 53 52 (.mov (.t 4)),xt 54 52 (.un .not (.t 53)),xt 55 52 (.mov (.t 54)),xf 56 55 (.mov (.t 0)),xf 57 55 (.mov (.t 6)),xf 58 55 (.iaddr 1 (.t 56) (.t 57)),xf 59 55 (.load false 1 (.t 58)),xf 60 55 (.call 81 [(true, (.t 59))]),xf 61 55 (.bin .neq 0 (.t 60) (ki 1)),xt 62 52 (.pick (.t 55) kt (.t 61)),xo 63 (.pick (.t 52) (.t 62) kf)] (rng 50 13))
(.cond (.t 63) [63] (.reg [xm 64 3,xm 65 0,xm 66 6,xo 67 (.iaddr 1 (.t 65) (.t 66)),xo 68 (.load false 1 (.t 67)),xo 69 (.mkl 23 1 [(.list 5 [])] 1 [(0, (.t 68))] false),xo 70 (.app 23 1 24 (.t 64) (.t 69)),xm 3 70] (rng 64 7)) .skip)))))
(.reg [xm 30 6,xo 31 (.bin .add 0 (.t 30) (ki 1)),xm 6 31] [30,31]))))))
(.seq (.reg [xm 71 3,xo 72 (.iaddr 1 (.t 71) (ki 0)),xo 73 (.load false 1 (.t 72)),xm 9 73] [71,72,73])
(.seq (.seq (.reg [xo 10 (.mov (ki 1))] [])
(.block 6 (.loop false (.seq (.seq (.reg [xm 74 10,xm 75 3,xo 76 (.len 1 (.t 75)),xo 77 (.bin .lss 0 (.t 74) (.t 76)),xm 78 77,xt 79 78 (.mov (.t 9)),xt 80 78 (.len 1 (.t 79)),xt 81 78 (.bin .gtr 0 (.t 80) (ki 0)),xo 82 (.pick (.t 78) (.t 81) kf)] (rng 74 8))
(.cond (.t 82) [82] .skip (.exit 6)))
(.seq (.block 7 (.reg [xm 85 9,xm 86 3,xm 87 10,xo 88 (.iaddr 1 (.t 86) (.t 87)),xo 89 (.load false 1 (.t 88)),xo 90 (.call 25 [(true, (ki 4)),(true, (.t 85)),(true, (.t 89))]),xm 9 90] (rng 85 6)))
(.reg [xm 83 10,xo 84 (.bin .add 0 (.t 83) (ki 1)),xm 10 84] [83,84]))))))
(.seq (.reg [xm 91 9,xm 2 91] [91])
.ret))))))))
/-- caesura/caesuraref12.chain -/
def fn82 : AFn := ⟨1, 92, c82, [(.t 2)], 0⟩
theorem fn82_body : fn82.body = c82 := rfl
theorem fn82_res : fn82.res = [(.t 2)] := rfl
theorem fn82_keep : fn82.keep = 0 := rfl
def c83 : ACode :=
(.seq (.reg [xo 2 (.anil 23 1)] [])
(.seq (.reg [xo 3 (.anil 23 1)] [])
(.seq (.reg [xm 7 0,xo 8 (.mkl 23 1 [(.list 5 [])] 1 [(0, (.t 7))] false),xm 4 8] [7,8])
(.seq (.block 0 (.loop false (.seq (.seq (.reg [xm 9 4,xo 10 (.len 1 (.t 9)),xo 11 (.bin .gtr 0 (.t 10) (ki 0))] [9,10])
(.cond (.t 11) [11] .skip (.exit 0)))
(.block 1 (.seq (.reg [xm 12 4,xo 13 (.iaddr 1 (.t 12) (ki 0)),xo 14 (.load false 1 (.t 13)),xm 5 14] [12,13,14])
(.seq (.reg [xm 15 4,xo 16 (.slc 1 (.t 15) (some (ki 1)) none none),xm 4 16] [15,16])
(.seq (.seq (.reg [xm 17 5,xo 18 (.call 81 [(true, (.t 17))]),xo 19 (.bin .eql 0 (.t 18) (ki 4))] [17,18])
(.cond (.t 19) [19] (.seq (.reg [xm 20 5,xo 21 (.call 24 [(true, (.t 20))]),xo 6 (.new [(.list 5 []),(.list 5 []),(.bool false)]),xn (.store false 3 (.t 6) (.t 21))] [20,21])
(.seq (.reg [xo 22 (.faddr 0 (.t 6)),xo 23 (.load false 1 (.t 22)),xo 24 (.faddr 1 (.t 6)),xo 25 (.load false 1 (.t 24)),xo 26 (.mkl 23 1 [(.list 5 [])] 2 [(0, (.t 23)),(1, (.t 25))] false),xm 27 4,xo 28 (.app 23 1 24 (.t 26) (.t 27)),xm 4 28] (rng 22 7))
(.exit 1))) .skip))
(.reg [xm 29 3,xm 30 5,xo 31 (.mkl 23 1 [(.list 5 [])] 1 [(0, (.t 30))] false),xo 32 (.app 23 1 24 (.t 29) (.t 31)),xm 3 32] (rng 29 4)))))))))
(.seq (.reg [xm 33 3,xm 2 33] [33])
.ret)))))
/-- caesura/caesuraref12.Members -/
def fn83 : AFn := ⟨1, 34, c83, [(.t 2)], 0⟩
theorem fn83_body : fn83.body = c83 := rfl
theorem fn83_res : fn83.res = [(.t 2)] := rfl
theorem fn83_keep : fn83.keep = 0 := rfl
def c84 : ACode :=
(.seq (.reg [xo 2 (.anil 48 5)] [])
(.seq (.seq (.reg [xm 3 0,xo 4 (.call 81 [(true, (.t 3))])] [3])
(.block 0 (.seq (.seq (.reg [xo 6 (.bin .eql 0 (.t 4) (ki 0)),xm 5 6] [6])
(.cond (.t 5) [] .skip (.reg [xo 7 (.bin .eql 0 (.t 4) (ki 1)),xm 5 7] [7])))
(.cond (.t 5) [] (.seq (.reg [xo 8 (.call 35 [(true, (ki 1))]),xm 2 8] [8])
.ret) (.seq (.reg [xo 10 (.bin .eql 0 (.t 4) (ki 5)),xm 9 10] [10])
(.cond (.t 9) [9] (.seq (.reg [xm 11 0,xm 2 11] [11])
.ret) .skip))))))
(.seq (.reg [xm 12 0,xo 13 (.call 26 [(true, (.t 12))]),xm 2 13] [12,13])
.ret)))
/-- caesura/caesuraref12.Star1 -/
def fn84 : AFn := ⟨1, 14, c84, [(.t 2)], 0⟩
theorem fn84_body : fn84.body = c84 := rfl
theorem fn84_res : fn84.res = [(.t 2)] := rfl
theorem fn84_keep : fn84.keep = 0 := rfl
def c88 : ACode :=
(.seq (.reg [xo 1 (.box (.t 0)),xo 2 (.mov kf)] [])
(.seq (.reg [xo 3 (.faddr 0 (.t 1)),xo 4 (.load false 1 (.t 3)),xo 5 (.call 97 [(true, (.t 4))]),xm 6 5,xt 7 6 (.faddr 1 (.t 1)),xt 8 6 (.load false 1 (.t 7)),xt 9 6 (.call 97 [(true, (.t 8))]),xo 10 (.pick (.t 6) (.t 9) kf),xm 11 10,xt 12 11 (.faddr 0 (.t 1)),xt 13 11 (.load false 1 (.t 12)),xt 14 11 (.faddr 1 (.t 1)),xt 15 11 (.load false 1 (.t 14)),xt 16 11 (.bin .leq 0 (.t 13) (.t 15)),xo 17 (.pick (.t 11) (.t 16) kf),xm 2 17] (rng 3 15))
.ret))
/-- caesura/sets.whole -/
def fn88 : AFn := ⟨1, 18, c88, [(.t 2)], 0⟩
theorem fn88_body : fn88.body = c88 := rfl
theorem fn88_res : fn88.res = [(.t 2)] := rfl
theorem fn88_keep : fn88.keep = 0 := rfl
def c89 : ACode :=
(.seq (.reg [xo 2 (.box (.t 0)),xo 3 (.box (.t 1)),xo 4 (.mov kf)] [])
(.seq (.reg [xo 8 (.faddr 1 (.t 2)),xo 9 (.load false 1 (.t 8)),xo 10 (.call 92 [(true, (.t 9))]),xm 7 10,xo 11 (.ext (.t 7) 0),xo 12 (.ext (.t 7) 1),xm 5 11,xm 6 12] (rng 7 6))
(.seq (.reg [xm 13 6,xm 14 13,xt 15 14 (.faddr 0 (.t 3)),xt 16 14 (.load false 1 (.t 15)),xt 17 14 (.mov (.t 5)),xt 18 14 (.bin .gtr 0 (.t 16) (.t 17)),xo 19 (.pick (.t 14) (.t 18) kf),xm 4 19] (rng 13 7))
.ret)))
/-- caesura/sets.apart -/
def fn89 : AFn := ⟨2, 20, c89, [(.t 4)], 0⟩
theorem fn89_body : fn89.body = c89 := rfl
theorem fn89_res : fn89.res = [(.t 4)] := rfl
theorem fn89_keep : fn89.keep = 0 := rfl
def c92 : ACode :=
(.seq (.reg [xo 2 (.mov (ki 0)),xo 3 (.mov kf)] [])
(.seq (.block 0 (.seq (.reg [xm 5 0,xo 6 (.bin .lss 0 (.t 5) (ki 0)),xm 4 6] [5,6])
(.cond (.t 4) [4] (.seq (.reg [xo 2 (.mov (ki 0)),xo 3 (.mov kt)] [])
.ret) (.seq (.reg [xm 8 0,xo 9 (.bin .geq 0 (.t 8) (ki 1114111)),xm 7 9] [8,9])
(.cond (.t 7) [7] (.seq (.reg [xo 2 (.mov (ki 0)),xo 3 (.mov kf)] [])
.ret) (.seq (.reg [xm 11 0,xo 12 (.bin .geq 0 (.t 11) (ki 55295)),xm 13 12,xt 14 13 (.mov (.t 0)),xt 15 13 (.bin .lss 0 (.t 14) (ki 57344)),xo 16 (.pick (.t 13) (.t 15) kf),xm 10 16] (rng 11 6))
(.cond (.t 10) [10] (.seq (.reg [xo 2 (.mov (ki 57344)),xo 3 (.mov kt)] [])
.ret) .skip)))))))
(.seq (.reg [xm 17 0,xo 18 (.bin .add 0 (.t 17) (ki 1)),xm 2 18,xo 3 (.mov kt)] [17,18])
.ret)))
/-- caesura/scalar.Next -/
def fn92 : AFn := ⟨1, 19, c92, [(.t 2),(.t 3)], 0⟩
theorem fn92_body : fn92.body = c92 := rfl
theorem fn92_res : fn92.res = [(.t 2), (.t 3)] := rfl
theorem fn92_keep : fn92.keep = 0 := rfl
def c96 : ACode :=
(.seq (.reg [xo 2 (.new [(.int .i64 0),(.bool false)])] [])
(.seq (.block 0 (.seq (.reg [xm 4 0,xo 5 (.bin .geq 0 (.t 4) (ki 1114111)),xm 3 5] [4,5])
(.cond (.t 3) [3] (.seq (.reg [xo 6 (.agg [(.int .i64 0),(.bool false)] []),xn (.store false 2 (.t 2) (.t 6))] [6])
.ret) (.seq (.reg [xm 8 0,xo 9 (.bin .lss 0 (.t 8) (ki 0)),xm 7 9] [8,9])
(.cond (.t 7) [7] (.seq (.reg [xo 10 (.agg [(.int .i64 0),(.bool false)] [(0, 1, (ki 0)),(1, 1, kt)]),xn (.store false 2 (.t 2) (.t 10))] [10])
.ret) (.seq (.reg [xm 12 0,xo 13 (.bin .geq 0 (.t 12) (ki 55295)),xm 14 13,xt 15 14 (.mov (.t 0)),xt 16 14 (.bin .lss 0 (.t 15) (ki 57344)),xo 17 (.pick (.t 14) (.t 16) kf),xm 11 17] (rng 12 6))
(.cond (.t 11) [11] (.seq (.reg [xo 18 (.agg [(.int .i64 0),(.bool false)] [(0, 1, (ki 57344)),(1, 1, kt)]),xn (.store false 2 (.t 2) (.t 18))] [18])
.ret) .skip)))))))
(.seq (.reg [xm 19 0,xo 20 (.bin .add 0 (.t 19) (ki 1)),xo 21 (.agg [(.int .i64 0),(.bool false)] [(0, 1, (.t 20)),(1, 1, kt)]),xn (.store false 2 (.t 2) (.t 21))] [19,20,21])
.ret)))
/-- caesura/caesuraref01.Next -/
def fn96 : AFn := ⟨1, 22, c96, [(.c 2 true 2)], 0⟩
theorem fn96_body : fn96.body = c96 := rfl
theorem fn96_res : fn96.res = [(.c 2 true 2)] := rfl
theorem fn96_keep : fn96.keep = 0 := rfl
def c97 : ACode :=
(.seq (.reg [xo 2 (.mov kf)] [])
(.seq (.reg [xm 6 0,xo 7 (.call 122 [(true, (.t 6))]),xm 5 7,xo 8 (.ext (.t 5) 0),xo 9 (.ext (.t 5) 1),xm 3 8,xm 4 9] [3,5,6,7,8,9])
(.seq (.reg [xm 10 4,xm 2 10] [10])
.ret)))
/-- caesura/scalar.Is -/
def fn97 : AFn := ⟨1, 11, c97, [(.t 2)], 0⟩
theorem fn97_body : fn97.body = c97 := rfl
theorem fn97_res : fn97.res = [(.t 2)] := rfl
theorem fn97_keep : fn97.keep = 0 := rfl
def c98 : ACode :=
(.seq (.reg [xo 4 (.mov kf)] [])
(.seq (.reg [xm 5 0,xm 6 1,xo 7 (.call 123 [(true, (.t 5)),(false, (.t 6))]),xo 8 (.bin .geq 0 (.t 7) (ki 0)),xm 4 8] (rng 5 4))
.ret))
/-- slices.ContainsFunc[caesura/api.Set,caesura/api.Range] -/
def fn98 : AFn := ⟨2, 9, c98, [(.t 4)], 0⟩
theorem fn98_body : fn98.body = c98 := rfl
theorem fn98_res : fn98.res = [(.t 4)] := rfl
theorem fn98_keep : fn98.keep = 0 := rfl
def c99 : ACode :=
(.seq (.reg [xo 2 (.box (.t 0)),xo 3 (.mov kf)] [])
(.seq (.reg [xo 4 (.faddr 0 (.t 2)),xo 5 (.load false 1 (.t 4)),xo 6 (.load false 1 (.t 1)),xo 7 (.bin .leq 0 (.t 5) (.t 6)),xm 8 7,xt 9 8 (.load false 1 (.t 1)),xt 10 8 (.faddr 1 (.t 2)),xt 11 8 (.load false 1 (.t 10)),xt 12 8 (.bin .leq 0 (.t 9) (.t 11)),xo 13 (.pick (.t 8) (.t 12) kf),xm 3 13] (rng 4 10))
.ret))
/-- caesura/sets.Has$1 -/
def fn99 : AFn := ⟨2, 14, c99, [(.t 3)], 0⟩
theorem fn99_body : fn99.body = c99 := rfl
theorem fn99_res : fn99.res = [(.t 3)] := rfl
theorem fn99_keep : fn99.keep = 0 := rfl
def c103 : ACode :=
(.seq (.reg [xo 1 (.box (.t 0)),xo 2 (.mov kf)] [])
(.seq (.reg [xo 3 (.faddr 3 (.t 1)),xo 4 (.load false 1 (.t 3)),xo 5 (.len 1 (.t 4)),xo 6 (.bin .eql 0 (.t 5) (ki 0)),xm 7 6,xt 8 7 (.faddr 4 (.t 1)),xt 9 7 (.load false 1 (.t 8)),⟨(some 10),(some (7, true)), .bin .eql 0 (.t 9) (.k (.str ⟨#[]⟩)), []⟩,xo 11 (.pick (.t 7) (.t 10) kf),xm 2 11] (rng 3 9))
.ret))
/-- caesura/tree.bare -/
def fn103 : AFn := ⟨1, 12, c103, [(.t 2)], 0⟩
theorem fn103_body : fn103.body = c103 := rfl
theorem fn103_res : fn103.res = [(.t 2)] := rfl
theorem fn103_keep : fn103.keep = 0 := rfl
def c104 : ACode :=
(.seq (.reg [xo 1 (.box (.t 0)),xo 2 (.mov kf)] [])
(.seq (.seq (.reg [xo 3 (.faddr 1 (.t 1)),xo 4 (.load false 1 (.t 3)),xo 5 (.bin .neq 0 (.t 4) (ki 0)),xm 6 5,xf 7 6 (.faddr 2 (.t 1)),xf 8 6 (.load false 1 (.t 7)),xf 9 6 (.bin .neq 0 (.t 8) (ki 0)),xo 10 (.pick (.t 6) kt (.t 9))] (rng 3 7))
(.cond (.t 10) [10] (.seq (.reg [xo 2 (.mov kf)] [])
.ret) .skip))
(.seq (.seq (.reg [xo 11 (.faddr 0 (.t 1)),xo 12 (.load false 1 (.t 11)),xo 13 (.bin .eql 0 (.t 12) (ki 2))] [11,12])
(.cond (.t 13) [13] (.seq (.reg [xo 14 (.faddr 3 (.t 1)),xo 15 (.load false 1 (.t 14)),xo 16 (.len 1 (.t 15)),xo 17 (.bin .gtr 0 (.t 16) (ki 0)),xm 18 17,xt 19 18 (.faddr 3 (.t 1)),xt 20 18 (.load false 1 (.t 19)),xt 21 18 (.call 56 [(true, (.t 20))]),xo 22 (.pick (.t 18) (.t 21) kf),xm 2 22] (rng 14 9))
.ret) .skip))
(.seq (.reg [xo 23 (.faddr 0 (.t 1)),xo 24 (.load false 1 (.t 23)),xo 25 (.bin .eql 0 (.t 24) (ki 0)),xm 26 25,xf 27 26 (.faddr 0 (.t 1)),xf 28 26 (.load false 1 (.t 27)),xf 29 26 (.bin .eql 0 (.t 28) (ki 1)),xo 30 (.pick (.t 26) kt (.t 29)),xm 31 30,xt 32 31 (.load true 5 (.t 1)),xt 33 31 (.call 103 [(true, (.t 32))]),xo 34 (.pick (.t 31) (.t 33) kf),xm 2 34] (rng 23 12))
.ret))))
/-- caesura/tree.leaf -/
def fn104 : AFn := ⟨1, 35, c104, [(.t 2)], 0⟩
theorem fn104_body : fn104.body = c104 := rfl
theorem fn104_res : fn104.res = [(.t 2)] := rfl
theorem fn104_keep : fn104.keep = 0 := rfl
def c105 : ACode :=
(.seq (.reg [xo 6 (.box (.t 1)),xo 10 (.mov kf)] [])
(.seq (.seq (.reg [xo 11 (.faddr 0 (.t 6)),xo 12 (.load false 1 (.t 11))] [11])
(.block 0 (.seq (.reg [xo 14 (.bin .eql 0 (.t 12) (ki 1)),xm 13 14] [14])
(.cond (.t 13) [13] (.seq (.reg [xm 15 3,xm 16 4,xo 17 (.bin .eql 0 (.t 15) (.t 16)),xm 10 17] [15,16,17])
.ret) (.seq (.reg [xo 19 (.bin .eql 0 (.t 12) (ki 2)),xm 18 19] [19])
(.cond (.t 18) [18] (.seq (.dreg [xm 20 4,xm 21 3,yo 22 (.bin .add 0 (.t 21) (ki 1)) [1],yo 23 (.bin .eql 0 (.t 20) (.t 22)) [0, 1, 2],ym 24 23 [0, 1, 2, 3],yt 25 24 (.faddr 3 (.t 6)) [0, 1, 2, 3, 4],yt 26 24 (.load false 1 (.t 25)) [0, 1, 2, 3, 4, 5],yt 27 24 (.mov (.t 0)) [0, 1, 2, 3, 4],yt 28 24 (.nilck (.t 27)) [0, 1, 2, 3, 4, 7],yt 29 24 (.faddr 1 (.t 28)) [0, 1, 2, 3, 4, 7, 8],yt 30 24 (.load false 1 (.t 29)) [0, 1, 2, 3, 4, 7, 8, 9],yt 31 24 (.mov (.t 3)) [0, 1, 2, 3, 4],yt 32 24 (.iaddr 1 (.t 30) (.t 31)) [0, 1, 2, 3, 4, 7, 8, 9, 10, 11],yt 33 24 (.load false 1 (.t 32)) [0, 1, 2, 3, 4, 7, 8, 9, 10, 11, 12],yt 34 24 (.call 58 [(true, (.t 26)),(true, (.t 33))]) [0, 1, 2, 3, 4, 5, 6, 7, 8, 9, 10, 11, 12, 13],yo 35 (.pick (.t 24) (.t 34) kf) [0, 1, 2, 3, 4, 5, 6, 7, 8, 9, 10, 11, 12, 13, 14],ym 10 35 (rng 0 16)] (rng 20 16))
.ret) (.seq (.reg [xo 37 (.bin .eql 0 (.t 12) (ki 4)),xm 36 37] [37])
(.cond (.t 36) [36] (.seq (.reg [xm 38 0,xo 39 (.faddr 1 (.t 6)),xo 40 (.load false 1 (.t 39)),xm 41 3,xm 42 4,xo 43 (.call 72 [(false, (.t 38)),(true, (.t 40)),(true, (.t 41)),(true, (.t 42))]),xm 44 43,xf 45 44 (.mov (.t 0)),xf 46 44 (.faddr 2 (.t 6)),xf 47 44 (.load false 1 (.t 46)),xf 48 44 (.mov (.t 3)),xf 49 44 (.mov (.t 4)),xf 50 44 (.call 72 [(false, (.t 45)),(true, (.t 47)),(true, (.t 48)),(true, (.t 49))]),xo 51 (.pick (.t 44) kt (.t 50)),xm 10 51] (rng 38 14))
.ret) (.seq (.reg [xo 53 (.bin .eql 0 (.t 12) (ki 3)),xm 52 53] [53])
(.cond (.t 52) [52] (.seq (.reg [xm 54 0,xo 55 (.faddr 1 (.t 6)),xo 56 (.load false 1 (.t 55)),xo 57 (.faddr 2 (.t 6)),xo 58 (.load false 1 (.t 57)),xm 59 3,xm 60 3,xm 61 4,xo 62 (.call 126 [(false, (.t 54)),(true, (.t 56)),(true, (.t 58)),(true, (.t 59)),(true, (.t 60)),(true, (.t 61))]),xm 10 62] (rng 54 9))
.ret) (.seq (.reg [xo 64 (.bin .eql 0 (.t 12) (ki 5)),xm 63 64] [64])
(.cond (.t 63) [63] (.seq (.reg [xm 65 3,xm 66 4,xo 67 (.bin .eql 0 (.t 65) (.t 66)),xm 68 67,xf 69 68 (.mov (.t 0)),xf 70 68 (.faddr 1 (.t 6)),xf 71 68 (.load false 1 (.t 70)),xf 72 68 (.mov (.t 2)),xf 73 68 (.mov (.t 3)),xf 74 68 (.bin .add 0 (.t 73) (ki 1)),xf 75 68 (.mov (.t 3)),xf 76 68 (.mov (.t 4)),xf 77 68 (.call 126 [(false, (.t 69)),(true, (.t 71)),(true, (.t 72)),(true, (.t 74)),(true, (.t 75)),(true, (.t 76))]),xo 78 (.pick (.t 68) kt (.t 77)),xm 10 78] (rng 65 14))
.ret) .skip))))))))))))
(.seq (.reg [xo 10 (.mov kf)] [])
.ret)))
/-- (*caesura/tree.taker).asks -/
def fn105 : AFn := ⟨5, 79, c105, [(.t 10)], 0⟩
theorem fn105_body : fn105.body = c105 := rfl
theorem fn105_res : fn105.res = [(.t 10)] := rfl
theorem fn105_keep : fn105.keep = 0 := rfl
def c106 : ACode :=
(.seq (.reg [⟨(some 2), none, .new [(.int .i64 0),(.int .i64 0),(.int .i64 0),(.str ⟨#[]⟩)], []⟩] [])
(.seq (.reg [xm 4 0,xm 5 0,xo 6 (.len 1 (.t 5)),xo 7 (.bin .sub 0 (.t 6) (ki 1)),xo 8 (.iaddr 5 (.t 4) (.t 7)),xo 9 (.load true 5 (.t 8)),⟨(some 3), none, .new [(.int .i64 0),(.int .i64 0),(.int .i64 0),(.list 2 []),(.str ⟨#[]⟩)], []⟩,xn (.store false 5 (.t 3) (.t 9))] (rng 4 6))
(.seq (.reg [xo 10 (.faddr 0 (.t 3)),xo 11 (.load false 1 (.t 10)),xo 12 (.faddr 1 (.t 3)),xo 13 (.load false 1 (.t 12)),xo 14 (.faddr 2 (.t 3)),xo 15 (.load false 1 (.t 14)),xo 16 (.faddr 4 (.t 3)),xo 17 (.load false 1 (.t 16)),⟨(some 18), none, .agg [(.int .i64 0),(.int .i64 0),(.int .i64 0),(.str ⟨#[]⟩)] [(0, 1, (.t 11)),(1, 1, (.t 13)),(2, 1, (.t 15)),(3, 1, (.t 17))], []⟩,xn (.store false 4 (.t 2) (.t 18))] (rng 10 9))
.ret)))
/-- caesura/smart.faced -/
def fn106 : AFn := ⟨1, 19, c106, [(.c 2 true 4)], 0⟩
theorem fn106_body : fn106.body = c106 := rfl
theorem fn106_res : fn106.res = [(.c 2 true 4)] := rfl
theorem fn106_keep : fn106.keep = 0 := rfl
def c107 : ACode :=
(.seq (.reg [xo 4 (.mov kf)] [])
(.seq (.reg [xm 5 0,xm 6 1,xo 7 (.call 127 [(false, (.t 5)),(false, (.t 6))]),xo 8 (.bin .geq 0 (.t 7) (ki 0)),xm 4 8] (rng 5 4))
.ret))
/-- slices.ContainsFunc[[]caesura/api.Tree,caesura/api.Tree] -/
def fn107 : AFn := ⟨2, 9, c107, [(.t 4)], 0⟩
theorem fn107_body : fn107.body = c107 := rfl
theorem fn107_res : fn107.res = [(.t 4)] := rfl
theorem fn107_keep : fn107.keep = 0 := rfl
def c108 : ACode :=
(.seq (.reg [xo 3 (.mov kf)] [])
(.seq (.reg [xm 4 0,xo 5 (.load false 1 (.t 1)),xo 6 (.call 109 [(true, (.t 4)),(true, (.t 5))]),xm 3 6] [4,5,6])
.ret))
/-- caesura/smart.once$1 -/
def fn108 : AFn := ⟨2, 7, c108, [(.t 3)], 0⟩
theorem fn108_body : fn108.body = c108 := rfl
theorem fn108_res : fn108.res = [(.t 3)] := rfl
theorem fn108_keep : fn108.keep = 0 := rfl
def c109 : ACode :=
(.seq (.reg [xo 4 (.mov kf)] [])
(.seq (.reg [xm 5 0,xo 6 (.call 106 [(true, (.t 5))]),xm 7 1,xo 8 (.call 106 [(true, (.t 7))]),xo 9 (.bins .eql [0,0,0,2] (.t 6) (.t 8)),xm 10 9,xt 11 10 (.mov (.t 0)),xt 12 10 (.mov (.t 1)),xt 13 10 (.call 33 [(true, (.t 11)),(true, (.t 12))]),xo 14 (.pick (.t 10) (.t 13) kf),xm 4 14] (rng 5 10))
.ret))
/-- caesura/smart.alike -/
def fn109 : AFn := ⟨2, 15, c109, [(.t 4)], 0⟩
theorem fn109_body : fn109.body = c109 := rfl
theorem fn109_res : fn109.res = [(.t 4)] := rfl
theorem fn109_keep : fn109.keep = 0 := rfl
def c110 : ACode :=
(.seq (.reg [xo 2 (.mov kf)] [])
(.seq (.reg [xm 3 0,xo 4 (.call 76 [(true, (.t 3)),(true, (ki 5))]),xm 2 4] [3,4])
.ret))
/-- caesura/smart.once$2 -/
def fn110 : AFn := ⟨1, 5, c110, [(.t 2)], 0⟩
theorem fn110_body : fn110.body = c110 := rfl
theorem fn110_res : fn110.res = [(.t 2)] := rfl
theorem fn110_keep : fn110.keep = 0 := rfl
def c111 : ACode :=
(.seq (.reg [xo 3 (.box (.t 1)),xo 4 (.anil 23 1)] [])
(.seq (.reg [xm 5 0,xo 6 (.mkf 129 [(.t 3)]),xo 7 (.call 128 [(false, (.t 5)),(false, (.t 6))]),xm 4 7] [5,6,7])
.ret))
/-- caesura/smart.without -/
def fn111 : AFn := ⟨2, 8, c111, [(.t 4)], 0⟩
theorem fn111_body : fn111.body = c111 := rfl
theorem fn111_res : fn111.res = [(.t 4)] := rfl
theorem fn111_keep : fn111.keep = 0 := rfl
def c112 : ACode :=
(.seq (.reg [xo 4 (.mov kf)] [])
(.seq (.seq (.reg [xm 9 0,xo 10 (.len 1 (.t 9)),xm 11 1,xo 12 (.len 1 (.t 11)),xo 13 (.bin .neq 0 (.t 10) (.t 12))] (rng 9 4))
(.cond (.t 13) [13] (.seq (.reg [xo 4 (.mov kf)] [])
.ret) .skip))
(.seq (.seq (.reg [xo 5 (.mov (ki 0))] [])
(.block 0 (.loop false (.seq (.seq (.reg [xm 14 5,xm 15 0,xo 16 (.len 1 (.t 15)),xo 17 (.bin .lss 0 (.t 14) (.t 16))] [14,15,16])
(.cond (.t 17) [17] .skip (.exit 0)))
(.seq (.block 1 (.seq (.dreg [xm 20 0,xm 21 5,yo 22 (.iaddr 5 (.t 20) (.t 21)) [0, 1],yo 23 (.load true 5 (.t 22)) [0, 1, 2],xm 24 1,xm 25 5,yo 26 (.iaddr 5 (.t 24) (.t 25)) [4, 5],yo 27 (.load true 5 (.t 26)) [4, 5, 6],⟨(some 6), none, .new [(.int .i64 0),(.int .i64 0),(.int .i64 0),(.list 2 []),(.str ⟨#[]⟩)], []⟩,⟨(some 7), none, .new [(.int .i64 0),(.int .i64 0),(.int .i64 0),(.list 2 []),(.str ⟨#[]⟩)], []⟩,⟨none, none, .store false 5 (.t 6) (.t 23), [0, 1, 2, 3, 8, 9]⟩,⟨none, none, .store false 5 (.t 7) (.t 27), [0, 1, 2, 3, 4, 5, 6, 7, 8, 9, 10]⟩] (rng 20 8))
(.seq (.seq (.reg [xo 28 (.faddr 0 (.t 6)),xo 29 (.load false 1 (.t 28)),xo 30 (.faddr 0 (.t 7)),xo 31 (.load false 1 (.t 30)),xo 32 (.bin .neq 0 (.t 29) (.t 31)),xm 33 32,xf 34 33 (.faddr 1 (.t 6)),xf 35 33 (.load false 1 (.t 34)),xf 36 33 (.faddr 1 (.t 7)),xf 37 33 (.load false 1 (.t 36)),xf 38 33 (.bin .neq 0 (.t 35) (.t 37)),xo 39 (.pick (.t 33) kt (.t 38)),xm 40 39,xf 41 40 (.faddr 2 (.t 6)),xf 42 40 (.load false 1 (.t 41)),xf 43 40 (.faddr 2 (.t 7)),xf 44 40 (.load false 1 (.t 43)),xf 45 40 (.bin .neq 0 (.t 42) (.t 44)),xo 46 (.pick (.t 40) kt (.t 45)),xm 47 46,xf 48 47 (.faddr 4 (.t 6)),xf 49 47 (.load false 1 (.t 48)),xf 50 47 (.faddr 4 (.t 7)),xf 51 47 (.load false 1 (.t 50)),xf 52 47 (.bin .neq 0 (.t 49) (.t 51)),xo 53 (.pick (.t 47) kt (.t 52)),xm 54 53,xf 55 54 (.faddr 3 (.t 6)),xf 56 54 (.load false 1 (.t 55)),xf 57 54 (.len 1 (.t 56)),xf 58 54 (.faddr 3 (.t 7)),xf 59 54 (.load false 1 (.t 58)),xf 60 54 (.len 1 (.t 59)),xf 61 54 (.bin .neq 0 (.t 57) (.t 60)),xo 62 (.pick (.t 54) kt (.t 61))] (rng 28 34))
(.cond (.t 62) [62] (.seq (.reg [xo 4 (.mov kf)] [])
.ret) .skip))
(.seq (.reg [xo 8 (.mov (ki 0))] [])
(.block 2 (.loop false (.seq (.seq (.reg [xm 63 8,xo 64 (.faddr 3 (.t 6)),xo 65 (.load false 1 (.t 64)),xo 66 (.len 1 (.t 65)),xo 67 (.bin .lss 0 (.t 63) (.t 66))] (rng 63 4))
(.cond (.t 67) [67] .skip (.exit 2)))
(.seq (.block 3 (.seq (.dreg [xo 70 (.faddr 3 (.t 6)),yo 71 (.load false 1 (.t 70)) [0],xm 72 8,yo 73 (.iaddr 2 (.t 71) (.t 72)) [0, 1, 2],yo 74 (.load true 2 (.t 73)) [0, 1, 2, 3],xo 75 (.faddr 3 (.t 7)),yo 76 (.load false 1 (.t 75)) [5],xm 77 8,yo 78 (.iaddr 2 (.t 76) (.t 77)) [5, 6, 7],yo 79 (.load true 2 (.t 78)) [5, 6, 7, 8],yo 80 (.bins .neq [0,0] (.t 74) (.t 79)) (rng 0 10)] (rng 70 10))
(.cond (.t 80) [80] (.seq (.reg [xo 4 (.mov kf)] [])
.ret) .skip)))
(.reg [xm 68 8,xo 69 (.bin .add 0 (.t 68) (ki 1)),xm 8 69] [68,69])))))))))
(.reg [xm 18 5,xo 19 (.bin .add 0 (.t 18) (ki 1)),xm 5 19] [18,19]))))))
(.seq (.reg [xo 4 (.mov kt)] [])
.ret))))
/-- caesura/caesuraref12.Same -/
def fn112 : AFn := ⟨2, 81, c112, [(.t 4)], 0⟩
theorem fn112_body : fn112.body = c112 := rfl
theorem fn112_res : fn112.res = [(.t 4)] := rfl
theorem fn112_keep : fn112.keep = 0 := rfl
def c122 : ACode :=
(.seq (.reg [xo 2 (.mov (.k (.int .i32 0))),xo 3 (.mov kf)] [])
(.seq (.seq (.reg [xm 5 0,xo 6 (.bin .lss 0 (.t 5) (ki 0)),xm 7 6,xf 8 7 (.mov (.t 0)),xf 9 7 (.bin .gtr 0 (.t 8) (ki 1114111)),xo 10 (.pick (.t 7) kt (.t 9))] (rng 5 5))
(.cond (.t 10) [10] (.seq (.reg [xo 2 (.mov (.k (.int .i32 0))),xo 3 (.mov kf)] [])
.ret) .skip))
(.seq (.reg [xm 11 0,xo 12 (.conv .i32 (.t 11)),xm 4 12] [11,12])
(.seq (.reg [xm 13 4,xm 14 4,xo 15 (.bin .leq 0 (.t 14) (.k (.int .i32 55295))),xm 16 15,xf 17 16 (.mov (.t 4)),xf 18 16 (.bin .geq 0 (.t 17) (.k (.int .i32 57344))),xo 19 (.pick (.t 16) kt (.t 18)),xm 2 13,xm 3 19] (rng 13 7))
.ret))))
/-- caesura/scalar.sign -/
def fn122 : AFn := ⟨1, 20, c122, [(.t 2),(.t 3)], 0⟩
theorem fn122_body : fn122.body = c122 := rfl
theorem fn122_res : fn122.res = [(.t 2), (.t 3)] := rfl
theorem fn122_keep : fn122.keep = 0 := rfl
def c123 : ACode :=
(.seq (.reg [xo 4 (.mov (ki 0))] [])
(.seq (.seq (.reg [xm 6 0,xo 7 (.len 1 (.t 6)),xo 8 (.mov (ki 0))] [6])
(.block 0 (.loop false (.seq (.reg [xo 9 (.bin .lss 0 (.t 8) (.t 7))] [])
(.seq (.cond (.t 9) [9] .skip (.exit 0))
(.seq (.block 1 (.seq (.reg [xm 10 8,xm 5 10] [10])
(.seq (.reg [xm 11 1,xm 12 0,xm 13 5,xo 14 (.iaddr 2 (.t 12) (.t 13)),xo 15 (.load true 2 (.t 14)),xo 16 (.callv (.t 11) [(true, (.t 15))])] (rng 11 5))
(.cond (.t 16) [16] (.seq (.reg [xm 17 5,xm 4 17] [17])
.ret) .skip))))
(.reg [xo 18 (.bin .add 0 (.t 8) (ki 1)),xm 8 18] [18])))))))
(.seq (.reg [xo 4 (.mov (.k (.int .i64 (-1))))] [])
.ret)))
/-- slices.IndexFunc[caesura/api.Set,caesura/api.Range] -/
def fn123 : AFn := ⟨2, 19, c123, [(.t 4)], 0⟩
theorem fn123_body : fn123.body = c123 := rfl
theorem fn123_res : fn123.res = [(.t 4)] := rfl
theorem fn123_keep : fn123.keep = 0 := rfl
def c126 : ACode :=
(.seq (.reg [xo 12 (.mov kf)] [])
(.seq (.seq (.reg [xm 14 3,xm 13 14] [14])
(.block 0 (.loop false (.seq (.seq (.reg [xm 15 13,xm 16 5,xo 17 (.bin .leq 0 (.t 15) (.t 16))] [15,16])
(.cond (.t 17) [17] .skip (.exit 0)))
(.seq (.block 1 (.seq (.reg [xm 20 0,xm 21 1,xm 22 4,xm 23 13,xo 24 (.call 72 [(false, (.t 20)),(true, (.t 21)),(true, (.t 22)),(true, (.t 23))]),xm 25 24,xt 26 25 (.mov (.t 0)),xt 27 25 (.mov (.t 2)),xt 28 25 (.mov (.t 13)),xt 29 25 (.mov (.t 5)),xt 30 25 (.call 72 [(false, (.t 26)),(true, (.t 27)),(true, (.t 28)),(true, (.t 29))]),xo 31 (.pick (.t 25) (.t 30) kf)] (rng 20 11))
(.cond (.t 31) [31] (.seq (.reg [xo 12 (.mov kt)] [])
.ret) .skip)))
(.reg [xm 18 13,xo 19 (.bin .add 0 (.t 18) (ki 1)),xm 13 19] [18,19]))))))
(.seq (.reg [xo 12 (.mov kf)] [])
.ret)))
/-- (*caesura/tree.taker).splits -/
def fn126 : AFn := ⟨6, 32, c126, [(.t 12)], 0⟩
theorem fn126_body : fn126.body = c126 := rfl
theorem fn126_res : fn126.res = [(.t 12)] := rfl
theorem fn126_keep : fn126.keep = 0 := rfl
def c127 : ACode :=
(.seq (.reg [xo 4 (.mov (ki 0))] [])
(.seq (.seq (.reg [xm 6 0,xo 7 (.len 1 (.t 6)),xo 8 (.mov (ki 0))] [6])
(.block 0 (.loop false (.seq (.reg [xo 9 (.bin .lss 0 (.t 8) (.t 7))] [])
(.seq (.cond (.t 9) [9] .skip (.exit 0))
(.seq (.block 1 (.seq (.reg [xm 10 8,xm 5 10] [10])
(.seq (.reg [xm 11 1,xm 12 0,xm 13 5,xo 14 (.iaddr 1 (.t 12) (.t 13)),xo 15 (.load false 1 (.t 14)),xo 16 (.callv (.t 11) [(true, (.t 15))])] (rng 11 5))
(.cond (.t 16) [16] (.seq (.reg [xm 17 5,xm 4 17] [17])
.ret) .skip))))
(.reg [xo 18 (.bin .add 0 (.t 8) (ki 1)),xm 8 18] [18])))))))
(.seq (.reg [xo 4 (.mov (.k (.int .i64 (-1))))] [])
.ret)))
/-- slices.IndexFunc[[]caesura/api.Tree,caesura/api.Tree] -/
def fn127 : AFn := ⟨2, 19, c127, [(.t 4)], 0⟩
theorem fn127_body : fn127.body = c127 := rfl
theorem fn127_res : fn127.res = [(.t 4)] := rfl
theorem fn127_keep : fn127.keep = 0 := rfl
def c128 : ACode :=
(.seq (.reg [xo 4 (.anil 23 1)] [])
(.seq (.reg [xm 8 0,xm 9 1,xo 10 (.call 127 [(false, (.t 8)),(false, (.t 9))]),xm 5 10] [8,9,10])
(.seq (.seq (.reg [xm 11 5,xo 12 (.bin .eql 0 (.t 11) (.k (.int .i64 (-1))))] [11])
(.cond (.t 12) [12] (.seq (.reg [xm 13 0,xm 4 13] [13])
.ret) .skip))
(.seq (.seq (.reg [xm 14 5,xo 15 (.bin .add 0 (.t 14) (ki 1)),xm 6 15] [14,15])
(.block 0 (.loop false (.seq (.seq (.reg [xm 16 6,xm 17 0,xo 18 (.len 1 (.t 17)),xo 19 (.bin .lss 0 (.t 16) (.t 18))] [16,17,18])
(.cond (.t 19) [19] .skip (.exit 0)))
(.seq (.block 1 (.seq (.reg [xm 22 0,xm 23 6,xo 24 (.iaddr 1 (.t 22) (.t 23)),xo 25 (.load false 1 (.t 24)),xm 7 25] (rng 22 4))
(.seq (.reg [xm 26 1,xm 27 7,xo 28 (.callv (.t 26) [(true, (.t 27))]),xo 29 (.un .not (.t 28))] [26,27,28])
(.cond (.t 29) [29] (.seq (.reg [xm 30 0,xm 31 5,xm 32 7,xo 33 (.iaddr 1 (.t 30) (.t 31)),xn (.store false 1 (.t 33) (.t 32))] (rng 30 4))
(.reg [xm 34 5,xo 35 (.bin .add 0 (.t 34) (ki 1)),xm 5 35] [34,35])) .skip))))
(.reg [xm 20 6,xo 21 (.bin .add 0 (.t 20) (ki 1)),xm 6 21] [20,21]))))))
(.seq (.reg [xm 36 0,xm 37 5,xo 38 (.tlz 1 (.t 36) (.t 37)),xn (.clr 23 1 [(.list 5 [])] (.t 38))] [36,37,38])
(.seq (.reg [xm 39 0,xm 40 5,xo 41 (.slc 1 (.t 39) none (some (.t 40)) none),xm 4 41] [39,40,41])
.ret))))))
/-- slices.DeleteFunc[[]caesura/api.Tree,caesura/api.Tree] -/
def fn128 : AFn := ⟨2, 42, c128, [(.t 4)], 0⟩
theorem fn128_body : fn128.body = c128 := rfl
theorem fn128_res : fn128.res = [(.t 4)] := rfl
theorem fn128_keep : fn128.keep = 0 := rfl
def c129 : ACode :=
(.seq (.reg [xo 3 (.mov kf)] [])
(.seq (.reg [xm 4 0,xo 5 (.load false 1 (.t 1)),xo 6 (.call 76 [(true, (.t 4)),(true, (.t 5))]),xm 3 6] [4,5,6])
.ret))
/-- caesura/smart.without$1 -/
def fn129 : AFn := ⟨2, 7, c129, [(.t 3)], 0⟩
theorem fn129_body : fn129.body = c129 := rfl
theorem fn129_res : fn129.res = [(.t 3)] := rfl
theorem fn129_keep : fn129.keep = 0 := rfl
end Go.Proofs.Abs
