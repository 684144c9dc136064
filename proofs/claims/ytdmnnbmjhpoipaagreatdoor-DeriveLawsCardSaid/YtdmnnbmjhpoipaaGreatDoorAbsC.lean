/- The program's functions as codes of the abstract interpreter, and that each is the program's own. Printed by wip/abs/absgen.py and codetext.py. -/
import Derived.Test.YtdmnnbmjhpoipaaGreatDoorAbsC1
import Derived.Test.YtdmnnbmjhpoipaaGreatDoorProg
import Derived.Test.YtdmnnbmjhpoipaaGreatDoorAbsGe
import Derived.KernelRfl
set_option maxRecDepth 100000
set_option linter.all false
set_option linter.unusedVariables false
set_option linter.unusedSimpArgs false
set_option linter.constructorNameAsVariable false
set_option linter.defProp false
namespace Go.Proofs.Abs
open ACode AIns AX
def ft : FT := fun n => match n with
  | 3 => some (.code fn1135)
  | 4 => some (.code fn1136)
  | 5 => some (.code fn1137)
  | 6 => some (.code fn1138)
  | 7 => some (.code fn1139)
  | 8 => some (.code fn1140)
  | 9 => some (.code fn18)
  | 10 => some (.code fn1141)
  | 11 => some (.code fn1142)
  | 12 => some (.code fn1143)
  | 13 => some (.code fn1144)
  | 14 => some (.code fn28)
  | 15 => some (.code fn1145)
  | 16 => some (.code fn1146)
  | 17 => some (.code fn30)
  | 18 => some (.code fn66)
  | 19 => some (.code fn59)
  | 20 => some (.code fn31)
  | 21 => some (.code fn25)
  | 22 => some (.code fn26)
  | 23 => some (.code fn16)
  | 24 => some (.code fn1147)
  | 25 => some (.code fn29)
  | 26 => some (.code fn97)
  | 27 => some (.code fn1148)
  | 28 => some (.code fn1149)
  | 29 => some (.code fn36)
  | 30 => some (.code fn35)
  | 31 => some (.code fn42)
  | 32 => some (.code fn70)
  | 33 => some (.code fn43)
  | 34 => some (.code fn63)
  | 35 => some (.code fn1150)
  | 36 => some (.code fn57)
  | 37 => some (.code fn72)
  | 38 => some (.dfr fn1151 57)
  | 39 => some (.code fn1152)
  | 40 => some (.code fn1153)
  | 41 => some (.code fn1154)
  | 42 => some (.code fn71)
  | 43 => some (.code fn122)
  | 44 => some (.code fn1155)
  | 45 => some (.code fn23)
  | 46 => some (.code fn34)
  | 47 => some (.code fn38)
  | 48 => some (.code fn1156)
  | 49 => some (.code fn39)
  | 50 => some (.code fn81)
  | 51 => some (.code fn24)
  | 52 => some (.code fn82)
  | 53 => some (.code fn83)
  | 54 => some (.code fn96)
  | 55 => some (.code fn105)
  | 56 => some (.code fn1157)
  | 58 => some (.code fn1159)
  | 59 => some (.code fn1160)
  | 60 => some (.code fn1161)
  | 61 => some (.code fn1162)
  | 62 => some (.code fn20)
  | 63 => some (.code fn1163)
  | 64 => some (.code fn1164)
  | 65 => some (.code fn103)
  | 66 => some (.code fn104)
  | 67 => some (.code fn1165)
  | 68 => some (.code fn68)
  | 69 => some (.code fn76)
  | 70 => some (.fork fn77)
  | 71 => some (.code fn19)
  | 72 => some (.code fn78)
  | 73 => some (.code fn79)
  | 74 => some (.code fn112)
  | 75 => some (.code fn58)
  | 76 => some (.code fn126)
  | 77 => some (.code fn1166)
  | 78 => some (.code fn1167)
  | 79 => some (.code fn1168)
  | 80 => some (.code fn1169)
  | 81 => some (.code fn67)
  | 82 => some (.code fn56)
  | 83 => some (.fork fn69)
  | 84 => some (.code fn106)
  | 85 => some (.code fn107)
  | 86 => some (.code fn108)
  | 87 => some (.code fn109)
  | 88 => some (.code fn110)
  | 89 => some (.code fn111)
  | 90 => some (.code fn98)
  | 91 => some (.code fn99)
  | 92 => some (.code fn1170)
  | 93 => some (.code fn1171)
  | 94 => some (.code fn1172)
  | 95 => some (.code fn1173)
  | 96 => some (.code fn1174)
  | 97 => some (.code fn1175)
  | 98 => some (.code fn1176)
  | 99 => some (.code fn1177)
  | 100 => some (.code fn1178)
  | 101 => some (.code fn21)
  | 102 => some (.code fn88)
  | 103 => some (.code fn89)
  | 104 => some (.code fn127)
  | 105 => some (.code fn33)
  | 106 => some (.code fn128)
  | 107 => some (.code fn129)
  | 108 => some (.code fn123)
  | 109 => some (.code fn1179)
  | 110 => some (.code fn1180)
  | 111 => some (.code fn1181)
  | 112 => some (.code fn1182)
  | 113 => some (.code fn1183)
  | 114 => some (.code fn1184)
  | 115 => some (.code fn1185)
  | 116 => some (.code fn92)
  | 117 => some (.code fn74)
  | 118 => some (.code fn75)
  | 119 => some (.code fn62)
  | 120 => some (.code fn1186)
  | 121 => some (.code fn1187)
  | 122 => some (.code fn22)
  | 123 => some (.code fn1188)
  | 124 => some (.code fn48)
  | 125 => some (.code fn1189)
  | 126 => some (.code fn1190)
  | 131 => some (.ora sfSpec)
  | 132 => some (.code fn86)
  | 133 => some (.ora ordSpec)
  | 100032 => some (.code { fn70 with keep := 0 })
  | 100068 => some (.code { fn68 with keep := 0 })
  | _ => none
theorem ok1135 : fnOK Tryz.prog 3 fn1135 = true := by kernel_rfl
theorem ok1136 : fnOK Tryz.prog 4 fn1136 = true := by kernel_rfl
theorem ok1137 : fnOK Tryz.prog 5 fn1137 = true := by kernel_rfl
theorem ok1138 : fnOK Tryz.prog 6 fn1138 = true := by kernel_rfl
theorem ok1139 : fnOK Tryz.prog 7 fn1139 = true := by kernel_rfl
theorem ok1140 : fnOK Tryz.prog 8 fn1140 = true := by kernel_rfl
theorem ok18 : fnOK Tryz.prog 9 fn18 = true := by kernel_rfl
theorem ok1141 : fnOK Tryz.prog 10 fn1141 = true := by kernel_rfl
theorem ok1142 : fnOK Tryz.prog 11 fn1142 = true := by kernel_rfl
theorem ok1143 : fnOK Tryz.prog 12 fn1143 = true := by kernel_rfl
theorem ok1144 : fnOK Tryz.prog 13 fn1144 = true := by kernel_rfl
theorem ok28 : fnOK Tryz.prog 14 fn28 = true := by kernel_rfl
theorem ok1145 : fnOK Tryz.prog 15 fn1145 = true := by kernel_rfl
theorem ok1146 : fnOK Tryz.prog 16 fn1146 = true := by kernel_rfl
theorem ok30 : fnOK Tryz.prog 17 fn30 = true := by kernel_rfl
theorem ok66 : fnOK Tryz.prog 18 fn66 = true := by kernel_rfl
theorem ok59 : fnOK Tryz.prog 19 fn59 = true := by kernel_rfl
theorem ok31 : fnOK Tryz.prog 20 fn31 = true := by kernel_rfl
theorem ok25 : fnOK Tryz.prog 21 fn25 = true := by kernel_rfl
theorem ok26 : fnOK Tryz.prog 22 fn26 = true := by kernel_rfl
theorem ok16 : fnOK Tryz.prog 23 fn16 = true := by kernel_rfl
theorem ok1147 : fnOK Tryz.prog 24 fn1147 = true := by kernel_rfl
theorem ok29 : fnOK Tryz.prog 25 fn29 = true := by kernel_rfl
theorem ok97 : fnOK Tryz.prog 26 fn97 = true := by kernel_rfl
theorem ok1148 : fnOK Tryz.prog 27 fn1148 = true := by kernel_rfl
theorem ok1149 : fnOK Tryz.prog 28 fn1149 = true := by kernel_rfl
theorem ok36 : fnOK Tryz.prog 29 fn36 = true := by kernel_rfl
theorem ok35 : fnOK Tryz.prog 30 fn35 = true := by kernel_rfl
theorem ok42 : fnOK Tryz.prog 31 fn42 = true := by kernel_rfl
theorem ok70 : fnOK Tryz.prog 32 fn70 = true := by kernel_rfl
theorem ok43 : fnOK Tryz.prog 33 fn43 = true := by kernel_rfl
theorem ok63 : fnOK Tryz.prog 34 fn63 = true := by kernel_rfl
theorem ok1150 : fnOK Tryz.prog 35 fn1150 = true := by kernel_rfl
theorem ok57 : fnOK Tryz.prog 36 fn57 = true := by kernel_rfl
theorem ok72 : fnOK Tryz.prog 37 fn72 = true := by kernel_rfl
theorem ok1151 : dfrOK Tryz.prog 38 fn1151 57 = true := by kernel_rfl
theorem ok1152 : fnOK Tryz.prog 39 fn1152 = true := by kernel_rfl
theorem ok1153 : fnOK Tryz.prog 40 fn1153 = true := by kernel_rfl
theorem ok1154 : fnOK Tryz.prog 41 fn1154 = true := by kernel_rfl
theorem ok71 : fnOK Tryz.prog 42 fn71 = true := by kernel_rfl
theorem ok122 : fnOK Tryz.prog 43 fn122 = true := by kernel_rfl
theorem ok1155 : fnOK Tryz.prog 44 fn1155 = true := by kernel_rfl
theorem ok23 : fnOK Tryz.prog 45 fn23 = true := by kernel_rfl
theorem ok34 : fnOK Tryz.prog 46 fn34 = true := by kernel_rfl
theorem ok38 : fnOK Tryz.prog 47 fn38 = true := by kernel_rfl
theorem ok1156 : fnOK Tryz.prog 48 fn1156 = true := by kernel_rfl
theorem ok39 : fnOK Tryz.prog 49 fn39 = true := by kernel_rfl
theorem ok81 : fnOK Tryz.prog 50 fn81 = true := by kernel_rfl
theorem ok24 : fnOK Tryz.prog 51 fn24 = true := by kernel_rfl
theorem ok82 : fnOK Tryz.prog 52 fn82 = true := by kernel_rfl
theorem ok83 : fnOK Tryz.prog 53 fn83 = true := by kernel_rfl
theorem ok96 : fnOK Tryz.prog 54 fn96 = true := by kernel_rfl
theorem ok105 : fnOK Tryz.prog 55 fn105 = true := by kernel_rfl
theorem ok1157 : fnOK Tryz.prog 56 fn1157 = true := by kernel_rfl
theorem ok1159 : fnOK Tryz.prog 58 fn1159 = true := by kernel_rfl
theorem ok1160 : fnOK Tryz.prog 59 fn1160 = true := by kernel_rfl
theorem ok1161 : fnOK Tryz.prog 60 fn1161 = true := by kernel_rfl
theorem ok1162 : fnOK Tryz.prog 61 fn1162 = true := by kernel_rfl
theorem ok20 : fnOK Tryz.prog 62 fn20 = true := by kernel_rfl
theorem ok1163 : fnOK Tryz.prog 63 fn1163 = true := by kernel_rfl
theorem ok1164 : fnOK Tryz.prog 64 fn1164 = true := by kernel_rfl
theorem ok103 : fnOK Tryz.prog 65 fn103 = true := by kernel_rfl
theorem ok104 : fnOK Tryz.prog 66 fn104 = true := by kernel_rfl
theorem ok1165 : fnOK Tryz.prog 67 fn1165 = true := by kernel_rfl
theorem ok68 : fnOK Tryz.prog 68 fn68 = true := by kernel_rfl
theorem ok76 : fnOK Tryz.prog 69 fn76 = true := by kernel_rfl
theorem ok77 : fnOK Tryz.prog 70 fn77 = true := by kernel_rfl
theorem ok19 : fnOK Tryz.prog 71 fn19 = true := by kernel_rfl
theorem ok78 : fnOK Tryz.prog 72 fn78 = true := by kernel_rfl
theorem ok79 : fnOK Tryz.prog 73 fn79 = true := by kernel_rfl
theorem ok112 : fnOK Tryz.prog 74 fn112 = true := by kernel_rfl
theorem ok58 : fnOK Tryz.prog 75 fn58 = true := by kernel_rfl
theorem ok126 : fnOK Tryz.prog 76 fn126 = true := by kernel_rfl
theorem ok1166 : fnOK Tryz.prog 77 fn1166 = true := by kernel_rfl
theorem ok1167 : fnOK Tryz.prog 78 fn1167 = true := by kernel_rfl
theorem ok1168 : fnOK Tryz.prog 79 fn1168 = true := by kernel_rfl
theorem ok1169 : fnOK Tryz.prog 80 fn1169 = true := by kernel_rfl
theorem ok67 : fnOK Tryz.prog 81 fn67 = true := by kernel_rfl
theorem ok56 : fnOK Tryz.prog 82 fn56 = true := by kernel_rfl
theorem ok69 : fnOK Tryz.prog 83 fn69 = true := by kernel_rfl
theorem ok106 : fnOK Tryz.prog 84 fn106 = true := by kernel_rfl
theorem ok107 : fnOK Tryz.prog 85 fn107 = true := by kernel_rfl
theorem ok108 : fnOK Tryz.prog 86 fn108 = true := by kernel_rfl
theorem ok109 : fnOK Tryz.prog 87 fn109 = true := by kernel_rfl
theorem ok110 : fnOK Tryz.prog 88 fn110 = true := by kernel_rfl
theorem ok111 : fnOK Tryz.prog 89 fn111 = true := by kernel_rfl
theorem ok98 : fnOK Tryz.prog 90 fn98 = true := by kernel_rfl
theorem ok99 : fnOK Tryz.prog 91 fn99 = true := by kernel_rfl
theorem ok1170 : fnOK Tryz.prog 92 fn1170 = true := by kernel_rfl
theorem ok1171 : fnOK Tryz.prog 93 fn1171 = true := by kernel_rfl
theorem ok1172 : fnOK Tryz.prog 94 fn1172 = true := by kernel_rfl
theorem ok1173 : fnOK Tryz.prog 95 fn1173 = true := by kernel_rfl
theorem ok1174 : fnOK Tryz.prog 96 fn1174 = true := by kernel_rfl
theorem ok1175 : fnOK Tryz.prog 97 fn1175 = true := by kernel_rfl
theorem ok1176 : fnOK Tryz.prog 98 fn1176 = true := by kernel_rfl
theorem ok1177 : fnOK Tryz.prog 99 fn1177 = true := by kernel_rfl
theorem ok1178 : fnOK Tryz.prog 100 fn1178 = true := by kernel_rfl
theorem ok21 : fnOK Tryz.prog 101 fn21 = true := by kernel_rfl
theorem ok88 : fnOK Tryz.prog 102 fn88 = true := by kernel_rfl
theorem ok89 : fnOK Tryz.prog 103 fn89 = true := by kernel_rfl
theorem ok127 : fnOK Tryz.prog 104 fn127 = true := by kernel_rfl
theorem ok33 : fnOK Tryz.prog 105 fn33 = true := by kernel_rfl
theorem ok128 : fnOK Tryz.prog 106 fn128 = true := by kernel_rfl
theorem ok129 : fnOK Tryz.prog 107 fn129 = true := by kernel_rfl
theorem ok123 : fnOK Tryz.prog 108 fn123 = true := by kernel_rfl
theorem ok1179 : fnOK Tryz.prog 109 fn1179 = true := by kernel_rfl
theorem ok1180 : fnOK Tryz.prog 110 fn1180 = true := by kernel_rfl
theorem ok1181 : fnOK Tryz.prog 111 fn1181 = true := by kernel_rfl
theorem ok1182 : fnOK Tryz.prog 112 fn1182 = true := by kernel_rfl
theorem ok1183 : fnOK Tryz.prog 113 fn1183 = true := by kernel_rfl
theorem ok1184 : fnOK Tryz.prog 114 fn1184 = true := by kernel_rfl
theorem ok1185 : fnOK Tryz.prog 115 fn1185 = true := by kernel_rfl
theorem ok92 : fnOK Tryz.prog 116 fn92 = true := by kernel_rfl
theorem ok74 : fnOK Tryz.prog 117 fn74 = true := by kernel_rfl
theorem ok75 : fnOK Tryz.prog 118 fn75 = true := by kernel_rfl
theorem ok62 : fnOK Tryz.prog 119 fn62 = true := by kernel_rfl
theorem ok1186 : fnOK Tryz.prog 120 fn1186 = true := by kernel_rfl
theorem ok1187 : fnOK Tryz.prog 121 fn1187 = true := by kernel_rfl
theorem ok22 : fnOK Tryz.prog 122 fn22 = true := by kernel_rfl
theorem ok1188 : fnOK Tryz.prog 123 fn1188 = true := by kernel_rfl
theorem ok48 : fnOK Tryz.prog 124 fn48 = true := by kernel_rfl
theorem ok1189 : fnOK Tryz.prog 125 fn1189 = true := by kernel_rfl
theorem ok1190 : fnOK Tryz.prog 126 fn1190 = true := by kernel_rfl
theorem ok86 : fnOK Tryz.prog 132 fn86 = true := by kernel_rfl
theorem ok100070 : fnOK Tryz.prog 32 { fn70 with keep := 0 } = true := by kernel_rfl
theorem ok100068 : fnOK Tryz.prog 68 { fn68 with keep := 0 } = true := by kernel_rfl
theorem ft_ok : FTOK Tryz.prog ft := by
  intro f x h
  unfold ft at h
  split at h
  · injection h with h; subst h; exact ok1135
  · injection h with h; subst h; exact ok1136
  · injection h with h; subst h; exact ok1137
  · injection h with h; subst h; exact ok1138
  · injection h with h; subst h; exact ok1139
  · injection h with h; subst h; exact ok1140
  · injection h with h; subst h; exact ok18
  · injection h with h; subst h; exact ok1141
  · injection h with h; subst h; exact ok1142
  · injection h with h; subst h; exact ok1143
  · injection h with h; subst h; exact ok1144
  · injection h with h; subst h; exact ok28
  · injection h with h; subst h; exact ok1145
  · injection h with h; subst h; exact ok1146
  · injection h with h; subst h; exact ok30
  · injection h with h; subst h; exact ok66
  · injection h with h; subst h; exact ok59
  · injection h with h; subst h; exact ok31
  · injection h with h; subst h; exact ok25
  · injection h with h; subst h; exact ok26
  · injection h with h; subst h; exact ok16
  · injection h with h; subst h; exact ok1147
  · injection h with h; subst h; exact ok29
  · injection h with h; subst h; exact ok97
  · injection h with h; subst h; exact ok1148
  · injection h with h; subst h; exact ok1149
  · injection h with h; subst h; exact ok36
  · injection h with h; subst h; exact ok35
  · injection h with h; subst h; exact ok42
  · injection h with h; subst h; exact ok70
  · injection h with h; subst h; exact ok43
  · injection h with h; subst h; exact ok63
  · injection h with h; subst h; exact ok1150
  · injection h with h; subst h; exact ok57
  · injection h with h; subst h; exact ok72
  · injection h with h; subst h; exact ⟨ok1151, norec⟩
  · injection h with h; subst h; exact ok1152
  · injection h with h; subst h; exact ok1153
  · injection h with h; subst h; exact ok1154
  · injection h with h; subst h; exact ok71
  · injection h with h; subst h; exact ok122
  · injection h with h; subst h; exact ok1155
  · injection h with h; subst h; exact ok23
  · injection h with h; subst h; exact ok34
  · injection h with h; subst h; exact ok38
  · injection h with h; subst h; exact ok1156
  · injection h with h; subst h; exact ok39
  · injection h with h; subst h; exact ok81
  · injection h with h; subst h; exact ok24
  · injection h with h; subst h; exact ok82
  · injection h with h; subst h; exact ok83
  · injection h with h; subst h; exact ok96
  · injection h with h; subst h; exact ok105
  · injection h with h; subst h; exact ok1157
  · injection h with h; subst h; exact ok1159
  · injection h with h; subst h; exact ok1160
  · injection h with h; subst h; exact ok1161
  · injection h with h; subst h; exact ok1162
  · injection h with h; subst h; exact ok20
  · injection h with h; subst h; exact ok1163
  · injection h with h; subst h; exact ok1164
  · injection h with h; subst h; exact ok103
  · injection h with h; subst h; exact ok104
  · injection h with h; subst h; exact ok1165
  · injection h with h; subst h; exact ok68
  · injection h with h; subst h; exact ok76
  · injection h with h; subst h; exact ok77
  · injection h with h; subst h; exact ok19
  · injection h with h; subst h; exact ok78
  · injection h with h; subst h; exact ok79
  · injection h with h; subst h; exact ok112
  · injection h with h; subst h; exact ok58
  · injection h with h; subst h; exact ok126
  · injection h with h; subst h; exact ok1166
  · injection h with h; subst h; exact ok1167
  · injection h with h; subst h; exact ok1168
  · injection h with h; subst h; exact ok1169
  · injection h with h; subst h; exact ok67
  · injection h with h; subst h; exact ok56
  · injection h with h; subst h; exact ok69
  · injection h with h; subst h; exact ok106
  · injection h with h; subst h; exact ok107
  · injection h with h; subst h; exact ok108
  · injection h with h; subst h; exact ok109
  · injection h with h; subst h; exact ok110
  · injection h with h; subst h; exact ok111
  · injection h with h; subst h; exact ok98
  · injection h with h; subst h; exact ok99
  · injection h with h; subst h; exact ok1170
  · injection h with h; subst h; exact ok1171
  · injection h with h; subst h; exact ok1172
  · injection h with h; subst h; exact ok1173
  · injection h with h; subst h; exact ok1174
  · injection h with h; subst h; exact ok1175
  · injection h with h; subst h; exact ok1176
  · injection h with h; subst h; exact ok1177
  · injection h with h; subst h; exact ok1178
  · injection h with h; subst h; exact ok21
  · injection h with h; subst h; exact ok88
  · injection h with h; subst h; exact ok89
  · injection h with h; subst h; exact ok127
  · injection h with h; subst h; exact ok33
  · injection h with h; subst h; exact ok128
  · injection h with h; subst h; exact ok129
  · injection h with h; subst h; exact ok123
  · injection h with h; subst h; exact ok1179
  · injection h with h; subst h; exact ok1180
  · injection h with h; subst h; exact ok1181
  · injection h with h; subst h; exact ok1182
  · injection h with h; subst h; exact ok1183
  · injection h with h; subst h; exact ok1184
  · injection h with h; subst h; exact ok1185
  · injection h with h; subst h; exact ok92
  · injection h with h; subst h; exact ok74
  · injection h with h; subst h; exact ok75
  · injection h with h; subst h; exact ok62
  · injection h with h; subst h; exact ok1186
  · injection h with h; subst h; exact ok1187
  · injection h with h; subst h; exact ok22
  · injection h with h; subst h; exact ok1188
  · injection h with h; subst h; exact ok48
  · injection h with h; subst h; exact ok1189
  · injection h with h; subst h; exact ok1190
  · injection h with h; subst h; exact sf_ok
  · injection h with h; subst h; exact ok86
  · injection h with h; subst h; exact ord_ok
  · injection h with h; subst h; exact ok100070
  · injection h with h; subst h; exact ok100068
  · cases h
theorem orders : Tryz.prog.follows .mixedOrders = true := by kernel_rfl
end Go.Proofs.Abs
