/- The program's functions as codes of the abstract interpreter, and that each is the program's own. Printed by wip/abs/absgen.py and codetext.py. -/
import Derived.Test.YtgcncpedpjjjeaaAbsC1
import Derived.Test.YtgcncpedpjjjeaaProg
import Derived.Test.YtgcncpedpjjjeaaAbsQ6
import Derived.KernelRfl
set_option maxRecDepth 100000
set_option linter.all false
set_option linter.unusedVariables false
set_option linter.unusedSimpArgs false
set_option linter.constructorNameAsVariable false
set_option linter.defProp false
namespace Go.Proofs.Abs
open ACode AIns AX
def ft : FT := fun n => match n with
  | 11 => some (.code fn11)
  | 12 => some (.code fn12)
  | 13 => some (.code fn13)
  | 14 => some (.code fn14)
  | 15 => some (.code fn15)
  | 46 => some (.code fn46)
  | 47 => some (.code fn47)
  | 48 => some (.code fn48)
  | 49 => some (.code fn49)
  | 50 => some (.code fn50)
  | 51 => some (.code fn51)
  | 52 => some (.code fn52)
  | 53 => some (.code fn53)
  | 54 => some (.code fn54)
  | 55 => some (.code fn55)
  | 56 => some (.code fn56)
  | 57 => some (.code fn57)
  | 58 => some (.code fn58)
  | 59 => some (.code fn59)
  | 60 => some (.code fn60)
  | 61 => some (.code fn61)
  | 62 => some (.code fn62)
  | 63 => some (.code fn63)
  | 64 => some (.code fn64)
  | 65 => some (.code fn65)
  | 66 => some (.code fn66)
  | 85 => some (.ora sfSpec)
  | 86 => some (.code fn86)
  | 87 => some (.ora ordSpec)
  | 88 => some (.code fn88)
  | 89 => some (.code fn89)
  | 90 => some (.code fn90)
  | 91 => some (.code fn91)
  | 92 => some (.code fn92)
  | 93 => some (.code fn93)
  | 94 => some (.code fn94)
  | 95 => some (.code fn95)
  | 96 => some (.code fn96)
  | 97 => some (.code fn97)
  | 98 => some (.code fn98)
  | 99 => some (.code fn99)
  | 100 => some (.code fn100)
  | 101 => some (.code fn101)
  | 102 => some (.code fn102)
  | 118 => some (.ora growSpec)
  | 119 => some (.code fn119)
  | 120 => some (.code fn120)
  | 121 => some (.code fn121)
  | 122 => some (.code fn122)
  | 123 => some (.code fn123)
  | 124 => some (.code fn124)
  | 125 => some (.code fn125)
  | _ => none
theorem ok11 : fnOK Try.prog 11 fn11 = true := by kernel_rfl
theorem ok12 : fnOK Try.prog 12 fn12 = true := by kernel_rfl
theorem ok13 : fnOK Try.prog 13 fn13 = true := by kernel_rfl
theorem ok14 : fnOK Try.prog 14 fn14 = true := by kernel_rfl
theorem ok15 : fnOK Try.prog 15 fn15 = true := by kernel_rfl
theorem ok46 : fnOK Try.prog 46 fn46 = true := by kernel_rfl
theorem ok47 : fnOK Try.prog 47 fn47 = true := by kernel_rfl
theorem ok48 : fnOK Try.prog 48 fn48 = true := by kernel_rfl
theorem ok49 : fnOK Try.prog 49 fn49 = true := by kernel_rfl
theorem ok50 : fnOK Try.prog 50 fn50 = true := by kernel_rfl
theorem ok51 : fnOK Try.prog 51 fn51 = true := by kernel_rfl
theorem ok52 : fnOK Try.prog 52 fn52 = true := by kernel_rfl
theorem ok53 : fnOK Try.prog 53 fn53 = true := by kernel_rfl
theorem ok54 : fnOK Try.prog 54 fn54 = true := by kernel_rfl
theorem ok55 : fnOK Try.prog 55 fn55 = true := by kernel_rfl
theorem ok56 : fnOK Try.prog 56 fn56 = true := by kernel_rfl
theorem ok57 : fnOK Try.prog 57 fn57 = true := by kernel_rfl
theorem ok58 : fnOK Try.prog 58 fn58 = true := by kernel_rfl
theorem ok59 : fnOK Try.prog 59 fn59 = true := by kernel_rfl
theorem ok60 : fnOK Try.prog 60 fn60 = true := by kernel_rfl
theorem ok61 : fnOK Try.prog 61 fn61 = true := by kernel_rfl
theorem ok62 : fnOK Try.prog 62 fn62 = true := by kernel_rfl
theorem ok63 : fnOK Try.prog 63 fn63 = true := by kernel_rfl
theorem ok64 : fnOK Try.prog 64 fn64 = true := by kernel_rfl
theorem ok65 : fnOK Try.prog 65 fn65 = true := by kernel_rfl
theorem ok66 : fnOK Try.prog 66 fn66 = true := by kernel_rfl
theorem ok86 : fnOK Try.prog 86 fn86 = true := by kernel_rfl
theorem ok88 : fnOK Try.prog 88 fn88 = true := by kernel_rfl
theorem ok89 : fnOK Try.prog 89 fn89 = true := by kernel_rfl
theorem ok90 : fnOK Try.prog 90 fn90 = true := by kernel_rfl
theorem ok91 : fnOK Try.prog 91 fn91 = true := by kernel_rfl
theorem ok92 : fnOK Try.prog 92 fn92 = true := by kernel_rfl
theorem ok93 : fnOK Try.prog 93 fn93 = true := by kernel_rfl
theorem ok94 : fnOK Try.prog 94 fn94 = true := by kernel_rfl
theorem ok95 : fnOK Try.prog 95 fn95 = true := by kernel_rfl
theorem ok96 : fnOK Try.prog 96 fn96 = true := by kernel_rfl
theorem ok97 : fnOK Try.prog 97 fn97 = true := by kernel_rfl
theorem ok98 : fnOK Try.prog 98 fn98 = true := by kernel_rfl
theorem ok99 : fnOK Try.prog 99 fn99 = true := by kernel_rfl
theorem ok100 : fnOK Try.prog 100 fn100 = true := by kernel_rfl
theorem ok101 : fnOK Try.prog 101 fn101 = true := by kernel_rfl
theorem ok102 : fnOK Try.prog 102 fn102 = true := by kernel_rfl
theorem ok119 : fnOK Try.prog 119 fn119 = true := by kernel_rfl
theorem ok120 : fnOK Try.prog 120 fn120 = true := by kernel_rfl
theorem ok121 : fnOK Try.prog 121 fn121 = true := by kernel_rfl
theorem ok122 : fnOK Try.prog 122 fn122 = true := by kernel_rfl
theorem ok123 : fnOK Try.prog 123 fn123 = true := by kernel_rfl
theorem ok124 : fnOK Try.prog 124 fn124 = true := by kernel_rfl
theorem ok125 : fnOK Try.prog 125 fn125 = true := by kernel_rfl
theorem ft_ok : FTOK Try.prog ft := by
  intro f x h
  unfold ft at h
  split at h
  · injection h with h; subst h; exact ok11
  · injection h with h; subst h; exact ok12
  · injection h with h; subst h; exact ok13
  · injection h with h; subst h; exact ok14
  · injection h with h; subst h; exact ok15
  · injection h with h; subst h; exact ok46
  · injection h with h; subst h; exact ok47
  · injection h with h; subst h; exact ok48
  · injection h with h; subst h; exact ok49
  · injection h with h; subst h; exact ok50
  · injection h with h; subst h; exact ok51
  · injection h with h; subst h; exact ok52
  · injection h with h; subst h; exact ok53
  · injection h with h; subst h; exact ok54
  · injection h with h; subst h; exact ok55
  · injection h with h; subst h; exact ok56
  · injection h with h; subst h; exact ok57
  · injection h with h; subst h; exact ok58
  · injection h with h; subst h; exact ok59
  · injection h with h; subst h; exact ok60
  · injection h with h; subst h; exact ok61
  · injection h with h; subst h; exact ok62
  · injection h with h; subst h; exact ok63
  · injection h with h; subst h; exact ok64
  · injection h with h; subst h; exact ok65
  · injection h with h; subst h; exact ok66
  · injection h with h; subst h; exact sf_ok
  · injection h with h; subst h; exact ok86
  · injection h with h; subst h; exact ord_ok
  · injection h with h; subst h; exact ok88
  · injection h with h; subst h; exact ok89
  · injection h with h; subst h; exact ok90
  · injection h with h; subst h; exact ok91
  · injection h with h; subst h; exact ok92
  · injection h with h; subst h; exact ok93
  · injection h with h; subst h; exact ok94
  · injection h with h; subst h; exact ok95
  · injection h with h; subst h; exact ok96
  · injection h with h; subst h; exact ok97
  · injection h with h; subst h; exact ok98
  · injection h with h; subst h; exact ok99
  · injection h with h; subst h; exact ok100
  · injection h with h; subst h; exact ok101
  · injection h with h; subst h; exact ok102
  · injection h with h; subst h; exact grow_ok
  · injection h with h; subst h; exact ok119
  · injection h with h; subst h; exact ok120
  · injection h with h; subst h; exact ok121
  · injection h with h; subst h; exact ok122
  · injection h with h; subst h; exact ok123
  · injection h with h; subst h; exact ok124
  · injection h with h; subst h; exact ok125
  · cases h
theorem orders : Try.prog.follows .mixedOrders = true := by kernel_rfl
end Go.Proofs.Abs
