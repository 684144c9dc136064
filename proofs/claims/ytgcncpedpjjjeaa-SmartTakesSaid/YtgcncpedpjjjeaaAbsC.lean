/- The program's functions as codes of the abstract interpreter, and that each is the program's own. Printed by wip/abs/absgen.py and codetext.py. -/
import Derived.Test.YtgcncpedpjjjeaaAbsC1
import Derived.Test.YtgcncpedpjjjeaaProg
import Derived.KernelRfl
set_option maxRecDepth 100000
set_option linter.all false
set_option linter.unusedVariables false
set_option linter.unusedSimpArgs false
set_option linter.constructorNameAsVariable false
set_option linter.defProp false
namespace Go.Proofs.Abs
open ACode AIns AX
def ft : FT := fun n => match n with
  | 7 => some (.code fn7)
  | 8 => some (.code fn8)
  | 9 => some (.code fn9)
  | 10 => some (.code fn10)
  | 16 => some (.code fn16)
  | 18 => some (.code fn18)
  | 19 => some (.code fn19)
  | 20 => some (.code fn20)
  | 21 => some (.code fn21)
  | 22 => some (.code fn22)
  | 23 => some (.code fn23)
  | 24 => some (.code fn24)
  | 25 => some (.code fn25)
  | 26 => some (.code fn26)
  | 28 => some (.code fn28)
  | 29 => some (.code fn29)
  | 30 => some (.code fn30)
  | 31 => some (.code fn31)
  | 33 => some (.code fn33)
  | 34 => some (.code fn34)
  | 35 => some (.code fn35)
  | 36 => some (.code fn36)
  | 37 => some (.code fn37)
  | 38 => some (.code fn38)
  | 39 => some (.code fn39)
  | 40 => some (.code fn40)
  | 41 => some (.code fn41)
  | 42 => some (.code fn42)
  | 43 => some (.code fn43)
  | 44 => some (.code fn44)
  | 45 => some (.code fn45)
  | 56 => some (.code fn56)
  | 57 => some (.code fn57)
  | 58 => some (.code fn58)
  | 62 => some (.code fn62)
  | 63 => some (.code fn63)
  | 66 => some (.code fn66)
  | 67 => some (.code fn67)
  | 68 => some (.code fn68)
  | 69 => some (.fork fn69)
  | 70 => some (.code fn70)
  | 71 => some (.code fn71)
  | 72 => some (.code fn72)
  | 74 => some (.code fn74)
  | 75 => some (.code fn75)
  | 76 => some (.code fn76)
  | 77 => some (.fork fn77)
  | 78 => some (.code fn78)
  | 79 => some (.code fn79)
  | 80 => some (.code fn80)
  | 81 => some (.code fn81)
  | 82 => some (.code fn82)
  | 83 => some (.code fn83)
  | 84 => some (.code fn84)
  | 88 => some (.code fn88)
  | 89 => some (.code fn89)
  | 92 => some (.code fn92)
  | 96 => some (.code fn96)
  | 97 => some (.code fn97)
  | 98 => some (.code fn98)
  | 99 => some (.code fn99)
  | 103 => some (.code fn103)
  | 104 => some (.code fn104)
  | 105 => some (.code fn105)
  | 106 => some (.code fn106)
  | 107 => some (.code fn107)
  | 108 => some (.code fn108)
  | 109 => some (.code fn109)
  | 110 => some (.code fn110)
  | 111 => some (.code fn111)
  | 112 => some (.code fn112)
  | 122 => some (.code fn122)
  | 123 => some (.code fn123)
  | 126 => some (.code fn126)
  | 127 => some (.code fn127)
  | 128 => some (.code fn128)
  | 129 => some (.code fn129)
  | 100068 => some (.code { fn68 with keep := 0 })
  | _ => none
theorem ok7 : fnOK Try.prog 7 fn7 = true := by kernel_rfl
theorem ok8 : fnOK Try.prog 8 fn8 = true := by kernel_rfl
theorem ok9 : fnOK Try.prog 9 fn9 = true := by kernel_rfl
theorem ok10 : fnOK Try.prog 10 fn10 = true := by kernel_rfl
theorem ok16 : fnOK Try.prog 16 fn16 = true := by kernel_rfl
theorem ok18 : fnOK Try.prog 18 fn18 = true := by kernel_rfl
theorem ok19 : fnOK Try.prog 19 fn19 = true := by kernel_rfl
theorem ok20 : fnOK Try.prog 20 fn20 = true := by kernel_rfl
theorem ok21 : fnOK Try.prog 21 fn21 = true := by kernel_rfl
theorem ok22 : fnOK Try.prog 22 fn22 = true := by kernel_rfl
theorem ok23 : fnOK Try.prog 23 fn23 = true := by kernel_rfl
theorem ok24 : fnOK Try.prog 24 fn24 = true := by kernel_rfl
theorem ok25 : fnOK Try.prog 25 fn25 = true := by kernel_rfl
theorem ok26 : fnOK Try.prog 26 fn26 = true := by kernel_rfl
theorem ok28 : fnOK Try.prog 28 fn28 = true := by kernel_rfl
theorem ok29 : fnOK Try.prog 29 fn29 = true := by kernel_rfl
theorem ok30 : fnOK Try.prog 30 fn30 = true := by kernel_rfl
theorem ok31 : fnOK Try.prog 31 fn31 = true := by kernel_rfl
theorem ok33 : fnOK Try.prog 33 fn33 = true := by kernel_rfl
theorem ok34 : fnOK Try.prog 34 fn34 = true := by kernel_rfl
theorem ok35 : fnOK Try.prog 35 fn35 = true := by kernel_rfl
theorem ok36 : fnOK Try.prog 36 fn36 = true := by kernel_rfl
theorem ok37 : fnOK Try.prog 37 fn37 = true := by kernel_rfl
theorem ok38 : fnOK Try.prog 38 fn38 = true := by kernel_rfl
theorem ok39 : fnOK Try.prog 39 fn39 = true := by kernel_rfl
theorem ok40 : fnOK Try.prog 40 fn40 = true := by kernel_rfl
theorem ok41 : fnOK Try.prog 41 fn41 = true := by kernel_rfl
theorem ok42 : fnOK Try.prog 42 fn42 = true := by kernel_rfl
theorem ok43 : fnOK Try.prog 43 fn43 = true := by kernel_rfl
theorem ok44 : fnOK Try.prog 44 fn44 = true := by kernel_rfl
theorem ok45 : fnOK Try.prog 45 fn45 = true := by kernel_rfl
theorem ok56 : fnOK Try.prog 56 fn56 = true := by kernel_rfl
theorem ok57 : fnOK Try.prog 57 fn57 = true := by kernel_rfl
theorem ok58 : fnOK Try.prog 58 fn58 = true := by kernel_rfl
theorem ok62 : fnOK Try.prog 62 fn62 = true := by kernel_rfl
theorem ok63 : fnOK Try.prog 63 fn63 = true := by kernel_rfl
theorem ok66 : fnOK Try.prog 66 fn66 = true := by kernel_rfl
theorem ok67 : fnOK Try.prog 67 fn67 = true := by kernel_rfl
theorem ok68 : fnOK Try.prog 68 fn68 = true := by kernel_rfl
theorem ok69 : fnOK Try.prog 69 fn69 = true := by kernel_rfl
theorem ok70 : fnOK Try.prog 70 fn70 = true := by kernel_rfl
theorem ok71 : fnOK Try.prog 71 fn71 = true := by kernel_rfl
theorem ok72 : fnOK Try.prog 72 fn72 = true := by kernel_rfl
theorem ok74 : fnOK Try.prog 74 fn74 = true := by kernel_rfl
theorem ok75 : fnOK Try.prog 75 fn75 = true := by kernel_rfl
theorem ok76 : fnOK Try.prog 76 fn76 = true := by kernel_rfl
theorem ok77 : fnOK Try.prog 77 fn77 = true := by kernel_rfl
theorem ok78 : fnOK Try.prog 78 fn78 = true := by kernel_rfl
theorem ok79 : fnOK Try.prog 79 fn79 = true := by kernel_rfl
theorem ok80 : fnOK Try.prog 80 fn80 = true := by kernel_rfl
theorem ok81 : fnOK Try.prog 81 fn81 = true := by kernel_rfl
theorem ok82 : fnOK Try.prog 82 fn82 = true := by kernel_rfl
theorem ok83 : fnOK Try.prog 83 fn83 = true := by kernel_rfl
theorem ok84 : fnOK Try.prog 84 fn84 = true := by kernel_rfl
theorem ok88 : fnOK Try.prog 88 fn88 = true := by kernel_rfl
theorem ok89 : fnOK Try.prog 89 fn89 = true := by kernel_rfl
theorem ok92 : fnOK Try.prog 92 fn92 = true := by kernel_rfl
theorem ok96 : fnOK Try.prog 96 fn96 = true := by kernel_rfl
theorem ok97 : fnOK Try.prog 97 fn97 = true := by kernel_rfl
theorem ok98 : fnOK Try.prog 98 fn98 = true := by kernel_rfl
theorem ok99 : fnOK Try.prog 99 fn99 = true := by kernel_rfl
theorem ok103 : fnOK Try.prog 103 fn103 = true := by kernel_rfl
theorem ok104 : fnOK Try.prog 104 fn104 = true := by kernel_rfl
theorem ok105 : fnOK Try.prog 105 fn105 = true := by kernel_rfl
theorem ok106 : fnOK Try.prog 106 fn106 = true := by kernel_rfl
theorem ok107 : fnOK Try.prog 107 fn107 = true := by kernel_rfl
theorem ok108 : fnOK Try.prog 108 fn108 = true := by kernel_rfl
theorem ok109 : fnOK Try.prog 109 fn109 = true := by kernel_rfl
theorem ok110 : fnOK Try.prog 110 fn110 = true := by kernel_rfl
theorem ok111 : fnOK Try.prog 111 fn111 = true := by kernel_rfl
theorem ok112 : fnOK Try.prog 112 fn112 = true := by kernel_rfl
theorem ok122 : fnOK Try.prog 122 fn122 = true := by kernel_rfl
theorem ok123 : fnOK Try.prog 123 fn123 = true := by kernel_rfl
theorem ok126 : fnOK Try.prog 126 fn126 = true := by kernel_rfl
theorem ok127 : fnOK Try.prog 127 fn127 = true := by kernel_rfl
theorem ok128 : fnOK Try.prog 128 fn128 = true := by kernel_rfl
theorem ok129 : fnOK Try.prog 129 fn129 = true := by kernel_rfl
theorem ok100068 : fnOK Try.prog 68 { fn68 with keep := 0 } = true := by kernel_rfl
theorem ft_ok : FTOK Try.prog ft := by
  intro f x h
  unfold ft at h
  split at h
  · injection h with h; subst h; exact ok7
  · injection h with h; subst h; exact ok8
  · injection h with h; subst h; exact ok9
  · injection h with h; subst h; exact ok10
  · injection h with h; subst h; exact ok16
  · injection h with h; subst h; exact ok18
  · injection h with h; subst h; exact ok19
  · injection h with h; subst h; exact ok20
  · injection h with h; subst h; exact ok21
  · injection h with h; subst h; exact ok22
  · injection h with h; subst h; exact ok23
  · injection h with h; subst h; exact ok24
  · injection h with h; subst h; exact ok25
  · injection h with h; subst h; exact ok26
  · injection h with h; subst h; exact ok28
  · injection h with h; subst h; exact ok29
  · injection h with h; subst h; exact ok30
  · injection h with h; subst h; exact ok31
  · injection h with h; subst h; exact ok33
  · injection h with h; subst h; exact ok34
  · injection h with h; subst h; exact ok35
  · injection h with h; subst h; exact ok36
  · injection h with h; subst h; exact ok37
  · injection h with h; subst h; exact ok38
  · injection h with h; subst h; exact ok39
  · injection h with h; subst h; exact ok40
  · injection h with h; subst h; exact ok41
  · injection h with h; subst h; exact ok42
  · injection h with h; subst h; exact ok43
  · injection h with h; subst h; exact ok44
  · injection h with h; subst h; exact ok45
  · injection h with h; subst h; exact ok56
  · injection h with h; subst h; exact ok57
  · injection h with h; subst h; exact ok58
  · injection h with h; subst h; exact ok62
  · injection h with h; subst h; exact ok63
  · injection h with h; subst h; exact ok66
  · injection h with h; subst h; exact ok67
  · injection h with h; subst h; exact ok68
  · injection h with h; subst h; exact ok69
  · injection h with h; subst h; exact ok70
  · injection h with h; subst h; exact ok71
  · injection h with h; subst h; exact ok72
  · injection h with h; subst h; exact ok74
  · injection h with h; subst h; exact ok75
  · injection h with h; subst h; exact ok76
  · injection h with h; subst h; exact ok77
  · injection h with h; subst h; exact ok78
  · injection h with h; subst h; exact ok79
  · injection h with h; subst h; exact ok80
  · injection h with h; subst h; exact ok81
  · injection h with h; subst h; exact ok82
  · injection h with h; subst h; exact ok83
  · injection h with h; subst h; exact ok84
  · injection h with h; subst h; exact ok88
  · injection h with h; subst h; exact ok89
  · injection h with h; subst h; exact ok92
  · injection h with h; subst h; exact ok96
  · injection h with h; subst h; exact ok97
  · injection h with h; subst h; exact ok98
  · injection h with h; subst h; exact ok99
  · injection h with h; subst h; exact ok103
  · injection h with h; subst h; exact ok104
  · injection h with h; subst h; exact ok105
  · injection h with h; subst h; exact ok106
  · injection h with h; subst h; exact ok107
  · injection h with h; subst h; exact ok108
  · injection h with h; subst h; exact ok109
  · injection h with h; subst h; exact ok110
  · injection h with h; subst h; exact ok111
  · injection h with h; subst h; exact ok112
  · injection h with h; subst h; exact ok122
  · injection h with h; subst h; exact ok123
  · injection h with h; subst h; exact ok126
  · injection h with h; subst h; exact ok127
  · injection h with h; subst h; exact ok128
  · injection h with h; subst h; exact ok129
  · injection h with h; subst h; exact ok100068
  · cases h
theorem orders : Try.prog.follows .mixedOrders = true := by kernel_rfl
end Go.Proofs.Abs
