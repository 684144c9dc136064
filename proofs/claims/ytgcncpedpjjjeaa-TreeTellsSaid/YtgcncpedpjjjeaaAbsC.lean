/- The program's functions as codes of the abstract interpreter, and that each is the program's own. Printed by wip/abs/absgen.py and codetext.py. -/
import Derived.Test.YtgcncpedpjjjeaaAbsC1
import Derived.Test.YtgcncpedpjjjeaaProg
import Derived.KernelRfl
set_option maxRecDepth 100000
set_option linter.all false
set_option linter.unusedVariables false
set_option linter.unusedSimpArgs false
set_option linter.constructorNameAsVariable false
set_option linter.defProp false
namespace Go.Proofs.Abs
open ACode AIns AX
def ft : FT := fun n => match n with
  | 3 => some (.code fn3)
  | 4 => some (.code fn4)
  | 5 => some (.code fn5)
  | 6 => some (.code fn6)
  | 16 => some (.code fn16)
  | 17 => some (.code fn17)
  | 18 => some (.code fn18)
  | 19 => some (.code fn19)
  | 20 => some (.code fn20)
  | 21 => some (.code fn21)
  | 22 => some (.code fn22)
  | 23 => some (.code fn23)
  | 24 => some (.code fn24)
  | 25 => some (.code fn25)
  | 26 => some (.code fn26)
  | 27 => some (.code fn27)
  | 28 => some (.code fn28)
  | 29 => some (.code fn29)
  | 30 => some (.code fn30)
  | 31 => some (.code fn31)
  | 32 => some (.code fn32)
  | 33 => some (.code fn33)
  | 34 => some (.code fn34)
  | 35 => some (.code fn35)
  | 36 => some (.code fn36)
  | 56 => some (.code fn56)
  | 57 => some (.code fn57)
  | 58 => some (.code fn58)
  | 59 => some (.code fn59)
  | 62 => some (.code fn62)
  | 63 => some (.code fn63)
  | 66 => some (.code fn66)
  | 67 => some (.code fn67)
  | 68 => some (.code fn68)
  | 69 => some (.fork fn69)
  | 70 => some (.code fn70)
  | 71 => some (.code fn71)
  | 72 => some (.code fn72)
  | 73 => some (.code fn73)
  | 74 => some (.code fn74)
  | 75 => some (.code fn75)
  | 77 => some (.fork fn77)
  | 88 => some (.code fn88)
  | 89 => some (.code fn89)
  | 92 => some (.code fn92)
  | 96 => some (.code fn96)
  | 97 => some (.code fn97)
  | 98 => some (.code fn98)
  | 99 => some (.code fn99)
  | 103 => some (.code fn103)
  | 104 => some (.code fn104)
  | 105 => some (.code fn105)
  | 122 => some (.code fn122)
  | 123 => some (.code fn123)
  | 126 => some (.code fn126)
  | 100068 => some (.code { fn68 with keep := 0 })
  | _ => none
theorem ok3 : fnOK Try.prog 3 fn3 = true := by kernel_rfl
theorem ok4 : fnOK Try.prog 4 fn4 = true := by kernel_rfl
theorem ok5 : fnOK Try.prog 5 fn5 = true := by kernel_rfl
theorem ok6 : fnOK Try.prog 6 fn6 = true := by kernel_rfl
theorem ok16 : fnOK Try.prog 16 fn16 = true := by kernel_rfl
theorem ok17 : fnOK Try.prog 17 fn17 = true := by kernel_rfl
theorem ok18 : fnOK Try.prog 18 fn18 = true := by kernel_rfl
theorem ok19 : fnOK Try.prog 19 fn19 = true := by kernel_rfl
theorem ok20 : fnOK Try.prog 20 fn20 = true := by kernel_rfl
theorem ok21 : fnOK Try.prog 21 fn21 = true := by kernel_rfl
theorem ok22 : fnOK Try.prog 22 fn22 = true := by kernel_rfl
theorem ok23 : fnOK Try.prog 23 fn23 = true := by kernel_rfl
theorem ok24 : fnOK Try.prog 24 fn24 = true := by kernel_rfl
theorem ok25 : fnOK Try.prog 25 fn25 = true := by kernel_rfl
theorem ok26 : fnOK Try.prog 26 fn26 = true := by kernel_rfl
theorem ok27 : fnOK Try.prog 27 fn27 = true := by kernel_rfl
theorem ok28 : fnOK Try.prog 28 fn28 = true := by kernel_rfl
theorem ok29 : fnOK Try.prog 29 fn29 = true := by kernel_rfl
theorem ok30 : fnOK Try.prog 30 fn30 = true := by kernel_rfl
theorem ok31 : fnOK Try.prog 31 fn31 = true := by kernel_rfl
theorem ok32 : fnOK Try.prog 32 fn32 = true := by kernel_rfl
theorem ok33 : fnOK Try.prog 33 fn33 = true := by kernel_rfl
theorem ok34 : fnOK Try.prog 34 fn34 = true := by kernel_rfl
theorem ok35 : fnOK Try.prog 35 fn35 = true := by kernel_rfl
theorem ok36 : fnOK Try.prog 36 fn36 = true := by kernel_rfl
theorem ok56 : fnOK Try.prog 56 fn56 = true := by kernel_rfl
theorem ok57 : fnOK Try.prog 57 fn57 = true := by kernel_rfl
theorem ok58 : fnOK Try.prog 58 fn58 = true := by kernel_rfl
theorem ok59 : fnOK Try.prog 59 fn59 = true := by kernel_rfl
theorem ok62 : fnOK Try.prog 62 fn62 = true := by kernel_rfl
theorem ok63 : fnOK Try.prog 63 fn63 = true := by kernel_rfl
theorem ok66 : fnOK Try.prog 66 fn66 = true := by kernel_rfl
theorem ok67 : fnOK Try.prog 67 fn67 = true := by kernel_rfl
theorem ok68 : fnOK Try.prog 68 fn68 = true := by kernel_rfl
theorem ok69 : fnOK Try.prog 69 fn69 = true := by kernel_rfl
theorem ok70 : fnOK Try.prog 70 fn70 = true := by kernel_rfl
theorem ok71 : fnOK Try.prog 71 fn71 = true := by kernel_rfl
theorem ok72 : fnOK Try.prog 72 fn72 = true := by kernel_rfl
theorem ok73 : fnOK Try.prog 73 fn73 = true := by kernel_rfl
theorem ok74 : fnOK Try.prog 74 fn74 = true := by kernel_rfl
theorem ok75 : fnOK Try.prog 75 fn75 = true := by kernel_rfl
theorem ok77 : fnOK Try.prog 77 fn77 = true := by kernel_rfl
theorem ok88 : fnOK Try.prog 88 fn88 = true := by kernel_rfl
theorem ok89 : fnOK Try.prog 89 fn89 = true := by kernel_rfl
theorem ok92 : fnOK Try.prog 92 fn92 = true := by kernel_rfl
theorem ok96 : fnOK Try.prog 96 fn96 = true := by kernel_rfl
theorem ok97 : fnOK Try.prog 97 fn97 = true := by kernel_rfl
theorem ok98 : fnOK Try.prog 98 fn98 = true := by kernel_rfl
theorem ok99 : fnOK Try.prog 99 fn99 = true := by kernel_rfl
theorem ok103 : fnOK Try.prog 103 fn103 = true := by kernel_rfl
theorem ok104 : fnOK Try.prog 104 fn104 = true := by kernel_rfl
theorem ok105 : fnOK Try.prog 105 fn105 = true := by kernel_rfl
theorem ok122 : fnOK Try.prog 122 fn122 = true := by kernel_rfl
theorem ok123 : fnOK Try.prog 123 fn123 = true := by kernel_rfl
theorem ok126 : fnOK Try.prog 126 fn126 = true := by kernel_rfl
theorem ok100068 : fnOK Try.prog 68 { fn68 with keep := 0 } = true := by kernel_rfl
theorem ft_ok : FTOK Try.prog ft := by
  intro f x h
  unfold ft at h
  split at h
  · injection h with h; subst h; exact ok3
  · injection h with h; subst h; exact ok4
  · injection h with h; subst h; exact ok5
  · injection h with h; subst h; exact ok6
  · injection h with h; subst h; exact ok16
  · injection h with h; subst h; exact ok17
  · injection h with h; subst h; exact ok18
  · injection h with h; subst h; exact ok19
  · injection h with h; subst h; exact ok20
  · injection h with h; subst h; exact ok21
  · injection h with h; subst h; exact ok22
  · injection h with h; subst h; exact ok23
  · injection h with h; subst h; exact ok24
  · injection h with h; subst h; exact ok25
  · injection h with h; subst h; exact ok26
  · injection h with h; subst h; exact ok27
  · injection h with h; subst h; exact ok28
  · injection h with h; subst h; exact ok29
  · injection h with h; subst h; exact ok30
  · injection h with h; subst h; exact ok31
  · injection h with h; subst h; exact ok32
  · injection h with h; subst h; exact ok33
  · injection h with h; subst h; exact ok34
  · injection h with h; subst h; exact ok35
  · injection h with h; subst h; exact ok36
  · injection h with h; subst h; exact ok56
  · injection h with h; subst h; exact ok57
  · injection h with h; subst h; exact ok58
  · injection h with h; subst h; exact ok59
  · injection h with h; subst h; exact ok62
  · injection h with h; subst h; exact ok63
  · injection h with h; subst h; exact ok66
  · injection h with h; subst h; exact ok67
  · injection h with h; subst h; exact ok68
  · injection h with h; subst h; exact ok69
  · injection h with h; subst h; exact ok70
  · injection h with h; subst h; exact ok71
  · injection h with h; subst h; exact ok72
  · injection h with h; subst h; exact ok73
  · injection h with h; subst h; exact ok74
  · injection h with h; subst h; exact ok75
  · injection h with h; subst h; exact ok77
  · injection h with h; subst h; exact ok88
  · injection h with h; subst h; exact ok89
  · injection h with h; subst h; exact ok92
  · injection h with h; subst h; exact ok96
  · injection h with h; subst h; exact ok97
  · injection h with h; subst h; exact ok98
  · injection h with h; subst h; exact ok99
  · injection h with h; subst h; exact ok103
  · injection h with h; subst h; exact ok104
  · injection h with h; subst h; exact ok105
  · injection h with h; subst h; exact ok122
  · injection h with h; subst h; exact ok123
  · injection h with h; subst h; exact ok126
  · injection h with h; subst h; exact ok100068
  · cases h
theorem orders : Try.prog.follows .mixedOrders = true := by kernel_rfl
end Go.Proofs.Abs
