/- The program's functions as codes of the abstract interpreter, and that each is the program's own. Printed by wip/abs/absgen.py and codetext.py. -/
import Derived.Test.YthknebhggdhhfaaGreatDoorAbsC1
import Derived.Test.YthknebhggdhhfaaGreatDoorProg
import Derived.Test.YthknebhggdhhfaaGreatDoorAbsGe
import Derived.KernelRfl
set_option maxRecDepth 100000
set_option linter.all false
set_option linter.unusedVariables false
set_option linter.unusedSimpArgs false
set_option linter.constructorNameAsVariable false
set_option linter.defProp false
namespace Go.Proofs.Abs
open ACode AIns AX
def ft : FT := fun n => match n with
  | 3 => some (.code fn1221)
  | 4 => some (.code fn1222)
  | 5 => some (.code fn1223)
  | 6 => some (.code fn1224)
  | 7 => some (.code fn1225)
  | 11 => some (.code fn1229)
  | 12 => some (.code fn1230)
  | 13 => some (.code fn1231)
  | 14 => some (.code fn1232)
  | 15 => some (.code fn1233)
  | 16 => some (.code fn1234)
  | 17 => some (.code fn1235)
  | 18 => some (.code fn1023)
  | 19 => some (.code fn1236)
  | 20 => some (.code fn1237)
  | 21 => some (.code fn1238)
  | 22 => some (.code fn1239)
  | 23 => some (.code fn66)
  | 24 => some (.code fn31)
  | 25 => some (.code fn22)
  | 26 => some (.code fn21)
  | 27 => some (.code fn34)
  | 28 => some (.code fn1240)
  | 30 => some (.code fn1241)
  | 42 => some (.code fn59)
  | 43 => some (.code fn1251)
  | 44 => some (.code fn1252)
  | 45 => some (.code fn18)
  | 46 => some (.code fn1253)
  | 47 => some (.code fn1254)
  | 48 => some (.code fn30)
  | 49 => some (.code fn73)
  | 50 => some (.code fn1255)
  | 51 => some (.code fn28)
  | 52 => some (.code fn1256)
  | 53 => some (.code fn57)
  | 54 => some (.code fn1257)
  | 55 => some (.code fn29)
  | 56 => some (.code fn72)
  | 57 => some (.code fn56)
  | 58 => some (.fork fn69)
  | 59 => some (.code fn68)
  | 60 => some (.code fn1258)
  | 61 => some (.code fn16)
  | 62 => some (.code fn1259)
  | 69 => some (.code fn58)
  | 70 => some (.code fn63)
  | 75 => some (.dfr fn1151 113)
  | 76 => some (.code fn1264)
  | 77 => some (.code fn1265)
  | 78 => some (.code fn1100)
  | 79 => some (.code fn1266)
  | 80 => some (.code fn97)
  | 81 => some (.code fn1267)
  | 82 => some (.code fn36)
  | 83 => some (.code fn1268)
  | 84 => some (.code fn1269)
  | 85 => some (.code fn96)
  | 86 => some (.code fn1270)
  | 87 => some (.code fn71)
  | 88 => some (.code fn105)
  | 89 => some (.code fn88)
  | 90 => some (.code fn89)
  | 91 => some (.fork fn77)
  | 92 => some (.code fn1271)
  | 93 => some (.code fn1272)
  | 99 => some (.code fn48)
  | 103 => some (.code fn62)
  | 105 => some (.code fn98)
  | 106 => some (.code fn99)
  | 112 => some (.code fn1157)
  | 114 => some (.code fn1160)
  | 115 => some (.code fn1277)
  | 116 => some (.code fn1163)
  | 117 => some (.code fn1164)
  | 118 => some (.code fn1278)
  | 119 => some (.code fn1161)
  | 120 => some (.code fn1279)
  | 121 => some (.code fn1154)
  | 122 => some (.code fn1117)
  | 123 => some (.code fn122)
  | 124 => some (.code fn103)
  | 125 => some (.code fn104)
  | 126 => some (.code fn126)
  | 127 => some (.code fn92)
  | 128 => some (.code fn1176)
  | 129 => some (.code fn1280)
  | 130 => some (.code fn1281)
  | 131 => some (.code fn1282)
  | 137 => some (.ora sfSpec)
  | 138 => some (.code fn86)
  | 139 => some (.ora ordSpec)
  | 143 => some (.code fn123)
  | 144 => some (.code fn1166)
  | 145 => some (.code fn1167)
  | 146 => some (.code fn1184)
  | 147 => some (.code fn1153)
  | 148 => some (.code fn1174)
  | 149 => some (.code fn1170)
  | 150 => some (.code fn1175)
  | 151 => some (.code fn1283)
  | 152 => some (.code fn1284)
  | 163 => some (.code fn1171)
  | 164 => some (.code fn1172)
  | 165 => some (.code fn1173)
  | 166 => some (.code fn1177)
  | 167 => some (.code fn1188)
  | 168 => some (.code fn1159)
  | 169 => some (.code fn1162)
  | 170 => some (.code fn20)
  | 185 => some (.code fn1179)
  | 186 => some (.code fn1180)
  | 187 => some (.code fn1181)
  | 188 => some (.code fn1182)
  | 189 => some (.code fn1168)
  | 190 => some (.code fn1169)
  | 191 => some (.code fn19)
  | 192 => some (.code fn67)
  | 206 => some (.code fn1186)
  | 207 => some (.code fn1187)
  | 208 => some (.code fn1178)
  | 213 => some (.code fn1189)
  | 214 => some (.code fn1190)
  | 219 => some (.code fn1183)
  | 220 => some (.code fn1185)
  | 100059 => some (.code { fn68 with keep := 0 })
  | 300013 => some (.code { fn1231 with keep := 2 })
  | _ => none
theorem ok1221 : fnOK Tryz.prog 3 fn1221 = true := by kernel_rfl
theorem ok1222 : fnOK Tryz.prog 4 fn1222 = true := by kernel_rfl
theorem ok1223 : fnOK Tryz.prog 5 fn1223 = true := by kernel_rfl
theorem ok1224 : fnOK Tryz.prog 6 fn1224 = true := by kernel_rfl
theorem ok1225 : fnOK Tryz.prog 7 fn1225 = true := by kernel_rfl
theorem ok1229 : fnOK Tryz.prog 11 fn1229 = true := by kernel_rfl
theorem ok1230 : fnOK Tryz.prog 12 fn1230 = true := by kernel_rfl
theorem ok1231 : fnOK Tryz.prog 13 fn1231 = true := by kernel_rfl
theorem ok1232 : fnOK Tryz.prog 14 fn1232 = true := by kernel_rfl
theorem ok1233 : fnOK Tryz.prog 15 fn1233 = true := by kernel_rfl
theorem ok1234 : fnOK Tryz.prog 16 fn1234 = true := by kernel_rfl
theorem ok1235 : fnOK Tryz.prog 17 fn1235 = true := by kernel_rfl
theorem ok1023 : fnOK Tryz.prog 18 fn1023 = true := by kernel_rfl
theorem ok1236 : fnOK Tryz.prog 19 fn1236 = true := by kernel_rfl
theorem ok1237 : fnOK Tryz.prog 20 fn1237 = true := by kernel_rfl
theorem ok1238 : fnOK Tryz.prog 21 fn1238 = true := by kernel_rfl
theorem ok1239 : fnOK Tryz.prog 22 fn1239 = true := by kernel_rfl
theorem ok66 : fnOK Tryz.prog 23 fn66 = true := by kernel_rfl
theorem ok31 : fnOK Tryz.prog 24 fn31 = true := by kernel_rfl
theorem ok22 : fnOK Tryz.prog 25 fn22 = true := by kernel_rfl
theorem ok21 : fnOK Tryz.prog 26 fn21 = true := by kernel_rfl
theorem ok34 : fnOK Tryz.prog 27 fn34 = true := by kernel_rfl
theorem ok1240 : fnOK Tryz.prog 28 fn1240 = true := by kernel_rfl
theorem ok1241 : fnOK Tryz.prog 30 fn1241 = true := by kernel_rfl
theorem ok59 : fnOK Tryz.prog 42 fn59 = true := by kernel_rfl
theorem ok1251 : fnOK Tryz.prog 43 fn1251 = true := by kernel_rfl
theorem ok1252 : fnOK Tryz.prog 44 fn1252 = true := by kernel_rfl
theorem ok18 : fnOK Tryz.prog 45 fn18 = true := by kernel_rfl
theorem ok1253 : fnOK Tryz.prog 46 fn1253 = true := by kernel_rfl
theorem ok1254 : fnOK Tryz.prog 47 fn1254 = true := by kernel_rfl
theorem ok30 : fnOK Tryz.prog 48 fn30 = true := by kernel_rfl
theorem ok73 : fnOK Tryz.prog 49 fn73 = true := by kernel_rfl
theorem ok1255 : fnOK Tryz.prog 50 fn1255 = true := by kernel_rfl
theorem ok28 : fnOK Tryz.prog 51 fn28 = true := by kernel_rfl
theorem ok1256 : fnOK Tryz.prog 52 fn1256 = true := by kernel_rfl
theorem ok57 : fnOK Tryz.prog 53 fn57 = true := by kernel_rfl
theorem ok1257 : fnOK Tryz.prog 54 fn1257 = true := by kernel_rfl
theorem ok29 : fnOK Tryz.prog 55 fn29 = true := by kernel_rfl
theorem ok72 : fnOK Tryz.prog 56 fn72 = true := by kernel_rfl
theorem ok56 : fnOK Tryz.prog 57 fn56 = true := by kernel_rfl
theorem ok69 : fnOK Tryz.prog 58 fn69 = true := by kernel_rfl
theorem ok68 : fnOK Tryz.prog 59 fn68 = true := by kernel_rfl
theorem ok1258 : fnOK Tryz.prog 60 fn1258 = true := by kernel_rfl
theorem ok16 : fnOK Tryz.prog 61 fn16 = true := by kernel_rfl
theorem ok1259 : fnOK Tryz.prog 62 fn1259 = true := by kernel_rfl
theorem ok58 : fnOK Tryz.prog 69 fn58 = true := by kernel_rfl
theorem ok63 : fnOK Tryz.prog 70 fn63 = true := by kernel_rfl
theorem ok1151 : dfrOK Tryz.prog 75 fn1151 113 = true := by kernel_rfl
theorem ok1264 : fnOK Tryz.prog 76 fn1264 = true := by kernel_rfl
theorem ok1265 : fnOK Tryz.prog 77 fn1265 = true := by kernel_rfl
theorem ok1100 : fnOK Tryz.prog 78 fn1100 = true := by kernel_rfl
theorem ok1266 : fnOK Tryz.prog 79 fn1266 = true := by kernel_rfl
theorem ok97 : fnOK Tryz.prog 80 fn97 = true := by kernel_rfl
theorem ok1267 : fnOK Tryz.prog 81 fn1267 = true := by kernel_rfl
theorem ok36 : fnOK Tryz.prog 82 fn36 = true := by kernel_rfl
theorem ok1268 : fnOK Tryz.prog 83 fn1268 = true := by kernel_rfl
theorem ok1269 : fnOK Tryz.prog 84 fn1269 = true := by kernel_rfl
theorem ok96 : fnOK Tryz.prog 85 fn96 = true := by kernel_rfl
theorem ok1270 : fnOK Tryz.prog 86 fn1270 = true := by kernel_rfl
theorem ok71 : fnOK Tryz.prog 87 fn71 = true := by kernel_rfl
theorem ok105 : fnOK Tryz.prog 88 fn105 = true := by kernel_rfl
theorem ok88 : fnOK Tryz.prog 89 fn88 = true := by kernel_rfl
theorem ok89 : fnOK Tryz.prog 90 fn89 = true := by kernel_rfl
theorem ok77 : fnOK Tryz.prog 91 fn77 = true := by kernel_rfl
theorem ok1271 : fnOK Tryz.prog 92 fn1271 = true := by kernel_rfl
theorem ok1272 : fnOK Tryz.prog 93 fn1272 = true := by kernel_rfl
theorem ok48 : fnOK Tryz.prog 99 fn48 = true := by kernel_rfl
theorem ok62 : fnOK Tryz.prog 103 fn62 = true := by kernel_rfl
theorem ok98 : fnOK Tryz.prog 105 fn98 = true := by kernel_rfl
theorem ok99 : fnOK Tryz.prog 106 fn99 = true := by kernel_rfl
theorem ok1157 : fnOK Tryz.prog 112 fn1157 = true := by kernel_rfl
theorem ok1160 : fnOK Tryz.prog 114 fn1160 = true := by kernel_rfl
theorem ok1277 : fnOK Tryz.prog 115 fn1277 = true := by kernel_rfl
theorem ok1163 : fnOK Tryz.prog 116 fn1163 = true := by kernel_rfl
theorem ok1164 : fnOK Tryz.prog 117 fn1164 = true := by kernel_rfl
theorem ok1278 : fnOK Tryz.prog 118 fn1278 = true := by kernel_rfl
theorem ok1161 : fnOK Tryz.prog 119 fn1161 = true := by kernel_rfl
theorem ok1279 : fnOK Tryz.prog 120 fn1279 = true := by kernel_rfl
theorem ok1154 : fnOK Tryz.prog 121 fn1154 = true := by kernel_rfl
theorem ok1117 : fnOK Tryz.prog 122 fn1117 = true := by kernel_rfl
theorem ok122 : fnOK Tryz.prog 123 fn122 = true := by kernel_rfl
theorem ok103 : fnOK Tryz.prog 124 fn103 = true := by kernel_rfl
theorem ok104 : fnOK Tryz.prog 125 fn104 = true := by kernel_rfl
theorem ok126 : fnOK Tryz.prog 126 fn126 = true := by kernel_rfl
theorem ok92 : fnOK Tryz.prog 127 fn92 = true := by kernel_rfl
theorem ok1176 : fnOK Tryz.prog 128 fn1176 = true := by kernel_rfl
theorem ok1280 : fnOK Tryz.prog 129 fn1280 = true := by kernel_rfl
theorem ok1281 : fnOK Tryz.prog 130 fn1281 = true := by kernel_rfl
theorem ok1282 : fnOK Tryz.prog 131 fn1282 = true := by kernel_rfl
theorem ok86 : fnOK Tryz.prog 138 fn86 = true := by kernel_rfl
theorem ok123 : fnOK Tryz.prog 143 fn123 = true := by kernel_rfl
theorem ok1166 : fnOK Tryz.prog 144 fn1166 = true := by kernel_rfl
theorem ok1167 : fnOK Tryz.prog 145 fn1167 = true := by kernel_rfl
theorem ok1184 : fnOK Tryz.prog 146 fn1184 = true := by kernel_rfl
theorem ok1153 : fnOK Tryz.prog 147 fn1153 = true := by kernel_rfl
theorem ok1174 : fnOK Tryz.prog 148 fn1174 = true := by kernel_rfl
theorem ok1170 : fnOK Tryz.prog 149 fn1170 = true := by kernel_rfl
theorem ok1175 : fnOK Tryz.prog 150 fn1175 = true := by kernel_rfl
theorem ok1283 : fnOK Tryz.prog 151 fn1283 = true := by kernel_rfl
theorem ok1284 : fnOK Tryz.prog 152 fn1284 = true := by kernel_rfl
theorem ok1171 : fnOK Tryz.prog 163 fn1171 = true := by kernel_rfl
theorem ok1172 : fnOK Tryz.prog 164 fn1172 = true := by kernel_rfl
theorem ok1173 : fnOK Tryz.prog 165 fn1173 = true := by kernel_rfl
theorem ok1177 : fnOK Tryz.prog 166 fn1177 = true := by kernel_rfl
theorem ok1188 : fnOK Tryz.prog 167 fn1188 = true := by kernel_rfl
theorem ok1159 : fnOK Tryz.prog 168 fn1159 = true := by kernel_rfl
theorem ok1162 : fnOK Tryz.prog 169 fn1162 = true := by kernel_rfl
theorem ok20 : fnOK Tryz.prog 170 fn20 = true := by kernel_rfl
theorem ok1179 : fnOK Tryz.prog 185 fn1179 = true := by kernel_rfl
theorem ok1180 : fnOK Tryz.prog 186 fn1180 = true := by kernel_rfl
theorem ok1181 : fnOK Tryz.prog 187 fn1181 = true := by kernel_rfl
theorem ok1182 : fnOK Tryz.prog 188 fn1182 = true := by kernel_rfl
theorem ok1168 : fnOK Tryz.prog 189 fn1168 = true := by kernel_rfl
theorem ok1169 : fnOK Tryz.prog 190 fn1169 = true := by kernel_rfl
theorem ok19 : fnOK Tryz.prog 191 fn19 = true := by kernel_rfl
theorem ok67 : fnOK Tryz.prog 192 fn67 = true := by kernel_rfl
theorem ok1186 : fnOK Tryz.prog 206 fn1186 = true := by kernel_rfl
theorem ok1187 : fnOK Tryz.prog 207 fn1187 = true := by kernel_rfl
theorem ok1178 : fnOK Tryz.prog 208 fn1178 = true := by kernel_rfl
theorem ok1189 : fnOK Tryz.prog 213 fn1189 = true := by kernel_rfl
theorem ok1190 : fnOK Tryz.prog 214 fn1190 = true := by kernel_rfl
theorem ok1183 : fnOK Tryz.prog 219 fn1183 = true := by kernel_rfl
theorem ok1185 : fnOK Tryz.prog 220 fn1185 = true := by kernel_rfl
theorem ok100068 : fnOK Tryz.prog 59 { fn68 with keep := 0 } = true := by kernel_rfl
theorem ok301231 : fnOK Tryz.prog 13 { fn1231 with keep := 2 } = true := by kernel_rfl
theorem ft_ok : FTOK Tryz.prog ft := by
  intro f x h
  unfold ft at h
  split at h
  · injection h with h; subst h; exact ok1221
  · injection h with h; subst h; exact ok1222
  · injection h with h; subst h; exact ok1223
  · injection h with h; subst h; exact ok1224
  · injection h with h; subst h; exact ok1225
  · injection h with h; subst h; exact ok1229
  · injection h with h; subst h; exact ok1230
  · injection h with h; subst h; exact ok1231
  · injection h with h; subst h; exact ok1232
  · injection h with h; subst h; exact ok1233
  · injection h with h; subst h; exact ok1234
  · injection h with h; subst h; exact ok1235
  · injection h with h; subst h; exact ok1023
  · injection h with h; subst h; exact ok1236
  · injection h with h; subst h; exact ok1237
  · injection h with h; subst h; exact ok1238
  · injection h with h; subst h; exact ok1239
  · injection h with h; subst h; exact ok66
  · injection h with h; subst h; exact ok31
  · injection h with h; subst h; exact ok22
  · injection h with h; subst h; exact ok21
  · injection h with h; subst h; exact ok34
  · injection h with h; subst h; exact ok1240
  · injection h with h; subst h; exact ok1241
  · injection h with h; subst h; exact ok59
  · injection h with h; subst h; exact ok1251
  · injection h with h; subst h; exact ok1252
  · injection h with h; subst h; exact ok18
  · injection h with h; subst h; exact ok1253
  · injection h with h; subst h; exact ok1254
  · injection h with h; subst h; exact ok30
  · injection h with h; subst h; exact ok73
  · injection h with h; subst h; exact ok1255
  · injection h with h; subst h; exact ok28
  · injection h with h; subst h; exact ok1256
  · injection h with h; subst h; exact ok57
  · injection h with h; subst h; exact ok1257
  · injection h with h; subst h; exact ok29
  · injection h with h; subst h; exact ok72
  · injection h with h; subst h; exact ok56
  · injection h with h; subst h; exact ok69
  · injection h with h; subst h; exact ok68
  · injection h with h; subst h; exact ok1258
  · injection h with h; subst h; exact ok16
  · injection h with h; subst h; exact ok1259
  · injection h with h; subst h; exact ok58
  · injection h with h; subst h; exact ok63
  · injection h with h; subst h; exact ⟨ok1151, norec⟩
  · injection h with h; subst h; exact ok1264
  · injection h with h; subst h; exact ok1265
  · injection h with h; subst h; exact ok1100
  · injection h with h; subst h; exact ok1266
  · injection h with h; subst h; exact ok97
  · injection h with h; subst h; exact ok1267
  · injection h with h; subst h; exact ok36
  · injection h with h; subst h; exact ok1268
  · injection h with h; subst h; exact ok1269
  · injection h with h; subst h; exact ok96
  · injection h with h; subst h; exact ok1270
  · injection h with h; subst h; exact ok71
  · injection h with h; subst h; exact ok105
  · injection h with h; subst h; exact ok88
  · injection h with h; subst h; exact ok89
  · injection h with h; subst h; exact ok77
  · injection h with h; subst h; exact ok1271
  · injection h with h; subst h; exact ok1272
  · injection h with h; subst h; exact ok48
  · injection h with h; subst h; exact ok62
  · injection h with h; subst h; exact ok98
  · injection h with h; subst h; exact ok99
  · injection h with h; subst h; exact ok1157
  · injection h with h; subst h; exact ok1160
  · injection h with h; subst h; exact ok1277
  · injection h with h; subst h; exact ok1163
  · injection h with h; subst h; exact ok1164
  · injection h with h; subst h; exact ok1278
  · injection h with h; subst h; exact ok1161
  · injection h with h; subst h; exact ok1279
  · injection h with h; subst h; exact ok1154
  · injection h with h; subst h; exact ok1117
  · injection h with h; subst h; exact ok122
  · injection h with h; subst h; exact ok103
  · injection h with h; subst h; exact ok104
  · injection h with h; subst h; exact ok126
  · injection h with h; subst h; exact ok92
  · injection h with h; subst h; exact ok1176
  · injection h with h; subst h; exact ok1280
  · injection h with h; subst h; exact ok1281
  · injection h with h; subst h; exact ok1282
  · injection h with h; subst h; exact sf_ok
  · injection h with h; subst h; exact ok86
  · injection h with h; subst h; exact ord_ok
  · injection h with h; subst h; exact ok123
  · injection h with h; subst h; exact ok1166
  · injection h with h; subst h; exact ok1167
  · injection h with h; subst h; exact ok1184
  · injection h with h; subst h; exact ok1153
  · injection h with h; subst h; exact ok1174
  · injection h with h; subst h; exact ok1170
  · injection h with h; subst h; exact ok1175
  · injection h with h; subst h; exact ok1283
  · injection h with h; subst h; exact ok1284
  · injection h with h; subst h; exact ok1171
  · injection h with h; subst h; exact ok1172
  · injection h with h; subst h; exact ok1173
  · injection h with h; subst h; exact ok1177
  · injection h with h; subst h; exact ok1188
  · injection h with h; subst h; exact ok1159
  · injection h with h; subst h; exact ok1162
  · injection h with h; subst h; exact ok20
  · injection h with h; subst h; exact ok1179
  · injection h with h; subst h; exact ok1180
  · injection h with h; subst h; exact ok1181
  · injection h with h; subst h; exact ok1182
  · injection h with h; subst h; exact ok1168
  · injection h with h; subst h; exact ok1169
  · injection h with h; subst h; exact ok19
  · injection h with h; subst h; exact ok67
  · injection h with h; subst h; exact ok1186
  · injection h with h; subst h; exact ok1187
  · injection h with h; subst h; exact ok1178
  · injection h with h; subst h; exact ok1189
  · injection h with h; subst h; exact ok1190
  · injection h with h; subst h; exact ok1183
  · injection h with h; subst h; exact ok1185
  · injection h with h; subst h; exact ok100068
  · injection h with h; subst h; exact ok301231
  · cases h
theorem orders : Tryz.prog.follows .mixedOrders = true := by kernel_rfl
end Go.Proofs.Abs
