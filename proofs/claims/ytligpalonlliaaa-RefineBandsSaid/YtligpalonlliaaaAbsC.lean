/- The program's functions as codes of the abstract interpreter, and that each is the program's own. Printed by wip/abs/absgen.py and codetext.py. -/
import Derived.Test.YtligpalonlliaaaAbsC1
import Derived.Test.YtligpalonlliaaaProg
import Derived.Test.YtligpalonlliaaaAbsQ6
import Derived.Test.YtligpalonlliaaaAbsQ8
import Derived.KernelRfl
set_option maxRecDepth 100000
set_option linter.all false
set_option linter.unusedVariables false
set_option linter.unusedSimpArgs false
set_option linter.constructorNameAsVariable false
set_option linter.defProp false
namespace Go.Proofs.Abs
open ACode AIns AX
def ft : FT := fun n => match n with
  | 3 => some (.code fn1059)
  | 4 => some (.code fn1060)
  | 5 => some (.code fn1061)
  | 6 => some (.code fn1003)
  | 7 => some (.code fn1004)
  | 8 => some (.code fn1006)
  | 9 => some (.code fn57)
  | 10 => some (.code fn1008)
  | 11 => some (.code fn1012)
  | 12 => some (.code fn61)
  | 13 => some (.code fn1010)
  | 14 => some (.code fn66)
  | 15 => some (.code fn59)
  | 16 => some (.code fn1007)
  | 17 => some (.code fn55)
  | 18 => some (.code fn1014)
  | 19 => some (.code fn63)
  | 20 => some (.code fn1015)
  | 21 => some (.code fn1016)
  | 22 => some (.code fn1017)
  | 23 => some (.code fn1018)
  | 24 => some (.code fn1019)
  | 25 => some (.code fn1020)
  | 26 => some (.code fn91)
  | 27 => some (.code fn48)
  | 28 => some (.code fn96)
  | 29 => some (.ora sortStSpec)
  | 30 => some (.code fn1022)
  | 31 => some (.code fn117)
  | 32 => some (.code fn92)
  | 33 => some (.code fn50)
  | 34 => some (.code fn62)
  | 35 => some (.code fn101)
  | 36 => some (.code fn97)
  | 37 => some (.code fn121)
  | 38 => some (.code fn94)
  | 39 => some (.code fn93)
  | 40 => some (.code fn1023)
  | 41 => some (.code fn1024)
  | 42 => some (.code fn1025)
  | 43 => some (.code fn56)
  | 44 => some (.ora sortISpec)
  | 45 => some (.ora compSpec)
  | 46 => some (.code fn1028)
  | 47 => some (.ora sfSpec)
  | 48 => some (.code fn86)
  | 49 => some (.ora ordSpec)
  | 50 => some (.code fn88)
  | 51 => some (.code fn89)
  | 54 => some (.code fn133)
  | 55 => some (.code fn125)
  | 56 => some (.code fn122)
  | 57 => some (.code fn120)
  | 58 => some (.code fn119)
  | 59 => some (.code fn1030)
  | 61 => some (.code fn1032)
  | 62 => some (.code fn1033)
  | _ => none
theorem ok1059 : fnOK Try.prog 3 fn1059 = true := by kernel_rfl
theorem ok1060 : fnOK Try.prog 4 fn1060 = true := by kernel_rfl
theorem ok1061 : fnOK Try.prog 5 fn1061 = true := by kernel_rfl
theorem ok1003 : fnOK Try.prog 6 fn1003 = true := by kernel_rfl
theorem ok1004 : fnOK Try.prog 7 fn1004 = true := by kernel_rfl
theorem ok1006 : fnOK Try.prog 8 fn1006 = true := by kernel_rfl
theorem ok57 : fnOK Try.prog 9 fn57 = true := by kernel_rfl
theorem ok1008 : fnOK Try.prog 10 fn1008 = true := by kernel_rfl
theorem ok1012 : fnOK Try.prog 11 fn1012 = true := by kernel_rfl
theorem ok61 : fnOK Try.prog 12 fn61 = true := by kernel_rfl
theorem ok1010 : fnOK Try.prog 13 fn1010 = true := by kernel_rfl
theorem ok66 : fnOK Try.prog 14 fn66 = true := by kernel_rfl
theorem ok59 : fnOK Try.prog 15 fn59 = true := by kernel_rfl
theorem ok1007 : fnOK Try.prog 16 fn1007 = true := by kernel_rfl
theorem ok55 : fnOK Try.prog 17 fn55 = true := by kernel_rfl
theorem ok1014 : fnOK Try.prog 18 fn1014 = true := by kernel_rfl
theorem ok63 : fnOK Try.prog 19 fn63 = true := by kernel_rfl
theorem ok1015 : fnOK Try.prog 20 fn1015 = true := by kernel_rfl
theorem ok1016 : fnOK Try.prog 21 fn1016 = true := by kernel_rfl
theorem ok1017 : fnOK Try.prog 22 fn1017 = true := by kernel_rfl
theorem ok1018 : fnOK Try.prog 23 fn1018 = true := by kernel_rfl
theorem ok1019 : fnOK Try.prog 24 fn1019 = true := by kernel_rfl
theorem ok1020 : fnOK Try.prog 25 fn1020 = true := by kernel_rfl
theorem ok91 : fnOK Try.prog 26 fn91 = true := by kernel_rfl
theorem ok48 : fnOK Try.prog 27 fn48 = true := by kernel_rfl
theorem ok96 : fnOK Try.prog 28 fn96 = true := by kernel_rfl
theorem ok1022 : fnOK Try.prog 30 fn1022 = true := by kernel_rfl
theorem ok117 : fnOK Try.prog 31 fn117 = true := by kernel_rfl
theorem ok92 : fnOK Try.prog 32 fn92 = true := by kernel_rfl
theorem ok50 : fnOK Try.prog 33 fn50 = true := by kernel_rfl
theorem ok62 : fnOK Try.prog 34 fn62 = true := by kernel_rfl
theorem ok101 : fnOK Try.prog 35 fn101 = true := by kernel_rfl
theorem ok97 : fnOK Try.prog 36 fn97 = true := by kernel_rfl
theorem ok121 : fnOK Try.prog 37 fn121 = true := by kernel_rfl
theorem ok94 : fnOK Try.prog 38 fn94 = true := by kernel_rfl
theorem ok93 : fnOK Try.prog 39 fn93 = true := by kernel_rfl
theorem ok1023 : fnOK Try.prog 40 fn1023 = true := by kernel_rfl
theorem ok1024 : fnOK Try.prog 41 fn1024 = true := by kernel_rfl
theorem ok1025 : fnOK Try.prog 42 fn1025 = true := by kernel_rfl
theorem ok56 : fnOK Try.prog 43 fn56 = true := by kernel_rfl
theorem ok1028 : fnOK Try.prog 46 fn1028 = true := by kernel_rfl
theorem ok86 : fnOK Try.prog 48 fn86 = true := by kernel_rfl
theorem ok88 : fnOK Try.prog 50 fn88 = true := by kernel_rfl
theorem ok89 : fnOK Try.prog 51 fn89 = true := by kernel_rfl
theorem ok133 : fnOK Try.prog 54 fn133 = true := by kernel_rfl
theorem ok125 : fnOK Try.prog 55 fn125 = true := by kernel_rfl
theorem ok122 : fnOK Try.prog 56 fn122 = true := by kernel_rfl
theorem ok120 : fnOK Try.prog 57 fn120 = true := by kernel_rfl
theorem ok119 : fnOK Try.prog 58 fn119 = true := by kernel_rfl
theorem ok1030 : fnOK Try.prog 59 fn1030 = true := by kernel_rfl
theorem ok1032 : fnOK Try.prog 61 fn1032 = true := by kernel_rfl
theorem ok1033 : fnOK Try.prog 62 fn1033 = true := by kernel_rfl
theorem ft_ok : FTOK Try.prog ft := by
  intro f x h
  unfold ft at h
  split at h
  · injection h with h; subst h; exact ok1059
  · injection h with h; subst h; exact ok1060
  · injection h with h; subst h; exact ok1061
  · injection h with h; subst h; exact ok1003
  · injection h with h; subst h; exact ok1004
  · injection h with h; subst h; exact ok1006
  · injection h with h; subst h; exact ok57
  · injection h with h; subst h; exact ok1008
  · injection h with h; subst h; exact ok1012
  · injection h with h; subst h; exact ok61
  · injection h with h; subst h; exact ok1010
  · injection h with h; subst h; exact ok66
  · injection h with h; subst h; exact ok59
  · injection h with h; subst h; exact ok1007
  · injection h with h; subst h; exact ok55
  · injection h with h; subst h; exact ok1014
  · injection h with h; subst h; exact ok63
  · injection h with h; subst h; exact ok1015
  · injection h with h; subst h; exact ok1016
  · injection h with h; subst h; exact ok1017
  · injection h with h; subst h; exact ok1018
  · injection h with h; subst h; exact ok1019
  · injection h with h; subst h; exact ok1020
  · injection h with h; subst h; exact ok91
  · injection h with h; subst h; exact ok48
  · injection h with h; subst h; exact ok96
  · injection h with h; subst h; exact sortSt_ok
  · injection h with h; subst h; exact ok1022
  · injection h with h; subst h; exact ok117
  · injection h with h; subst h; exact ok92
  · injection h with h; subst h; exact ok50
  · injection h with h; subst h; exact ok62
  · injection h with h; subst h; exact ok101
  · injection h with h; subst h; exact ok97
  · injection h with h; subst h; exact ok121
  · injection h with h; subst h; exact ok94
  · injection h with h; subst h; exact ok93
  · injection h with h; subst h; exact ok1023
  · injection h with h; subst h; exact ok1024
  · injection h with h; subst h; exact ok1025
  · injection h with h; subst h; exact ok56
  · injection h with h; subst h; exact sortI_ok
  · injection h with h; subst h; exact comp_ok
  · injection h with h; subst h; exact ok1028
  · injection h with h; subst h; exact sf_ok
  · injection h with h; subst h; exact ok86
  · injection h with h; subst h; exact ord_ok
  · injection h with h; subst h; exact ok88
  · injection h with h; subst h; exact ok89
  · injection h with h; subst h; exact ok133
  · injection h with h; subst h; exact ok125
  · injection h with h; subst h; exact ok122
  · injection h with h; subst h; exact ok120
  · injection h with h; subst h; exact ok119
  · injection h with h; subst h; exact ok1030
  · injection h with h; subst h; exact ok1032
  · injection h with h; subst h; exact ok1033
  · cases h
theorem orders : Try.prog.follows .mixedOrders = true := by kernel_rfl
end Go.Proofs.Abs
