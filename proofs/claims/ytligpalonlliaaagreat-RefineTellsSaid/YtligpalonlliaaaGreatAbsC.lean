/- The program's functions as codes of the abstract interpreter, and that each is the program's own. Printed by wip/abs/absgen.py and codetext.py. -/
import Derived.Test.YtligpalonlliaaaGreatAbsC1
import Derived.Test.YtligpalonlliaaaGreatProg
import Derived.Test.YtligpalonlliaaaGreatAbsQ6
import Derived.Test.YtligpalonlliaaaGreatAbsQ8
import Derived.KernelRfl
set_option maxRecDepth 100000
set_option linter.all false
set_option linter.unusedVariables false
set_option linter.unusedSimpArgs false
set_option linter.constructorNameAsVariable false
set_option linter.defProp false
namespace Go.Proofs.Abs
open ACode AIns AX
def ft : FT := fun n => match n with
  | 3 => some (.code fn1001)
  | 4 => some (.code fn1002)
  | 5 => some (.code fn1003)
  | 6 => some (.code fn1004)
  | 7 => some (.code fn1005)
  | 8 => some (.code fn1006)
  | 9 => some (.code fn1007)
  | 10 => some (.code fn1008)
  | 11 => some (.code fn1009)
  | 12 => some (.code fn1010)
  | 13 => some (.code fn1011)
  | 14 => some (.code fn1012)
  | 15 => some (.code fn1013)
  | 16 => some (.code fn1014)
  | 17 => some (.code fn1015)
  | 18 => some (.code fn1016)
  | 19 => some (.code fn57)
  | 20 => some (.code fn54)
  | 21 => some (.code fn55)
  | 22 => some (.code fn63)
  | 23 => some (.code fn1017)
  | 24 => some (.code fn1018)
  | 25 => some (.code fn1019)
  | 26 => some (.code fn1020)
  | 27 => some (.code fn91)
  | 28 => some (.code fn48)
  | 29 => some (.code fn121)
  | 30 => some (.code fn59)
  | 31 => some (.code fn94)
  | 32 => some (.ora sortStSpec)
  | 33 => some (.code fn1022)
  | 34 => some (.code fn117)
  | 35 => some (.code fn92)
  | 36 => some (.code fn97)
  | 37 => some (.code fn66)
  | 38 => some (.code fn50)
  | 39 => some (.code fn62)
  | 40 => some (.code fn61)
  | 41 => some (.code fn1023)
  | 42 => some (.code fn96)
  | 43 => some (.code fn95)
  | 44 => some (.code fn93)
  | 45 => some (.code fn1024)
  | 46 => some (.code fn1025)
  | 47 => some (.code fn56)
  | 48 => some (.ora sortISpec)
  | 49 => some (.ora compSpec)
  | 50 => some (.code fn1028)
  | 51 => some (.ora sfSpec)
  | 52 => some (.code fn86)
  | 53 => some (.ora ordSpec)
  | 54 => some (.code fn88)
  | 55 => some (.code fn89)
  | 56 => some (.code fn120)
  | 59 => some (.code fn133)
  | 60 => some (.code fn122)
  | 61 => some (.code fn101)
  | 62 => some (.code fn119)
  | 63 => some (.code fn1030)
  | 65 => some (.code fn1032)
  | 66 => some (.code fn1033)
  | 81 => some (.code fn125)
  | _ => none
theorem ok1001 : fnOK Tryz.prog 3 fn1001 = true := by kernel_rfl
theorem ok1002 : fnOK Tryz.prog 4 fn1002 = true := by kernel_rfl
theorem ok1003 : fnOK Tryz.prog 5 fn1003 = true := by kernel_rfl
theorem ok1004 : fnOK Tryz.prog 6 fn1004 = true := by kernel_rfl
theorem ok1005 : fnOK Tryz.prog 7 fn1005 = true := by kernel_rfl
theorem ok1006 : fnOK Tryz.prog 8 fn1006 = true := by kernel_rfl
theorem ok1007 : fnOK Tryz.prog 9 fn1007 = true := by kernel_rfl
theorem ok1008 : fnOK Tryz.prog 10 fn1008 = true := by kernel_rfl
theorem ok1009 : fnOK Tryz.prog 11 fn1009 = true := by kernel_rfl
theorem ok1010 : fnOK Tryz.prog 12 fn1010 = true := by kernel_rfl
theorem ok1011 : fnOK Tryz.prog 13 fn1011 = true := by kernel_rfl
theorem ok1012 : fnOK Tryz.prog 14 fn1012 = true := by kernel_rfl
theorem ok1013 : fnOK Tryz.prog 15 fn1013 = true := by kernel_rfl
theorem ok1014 : fnOK Tryz.prog 16 fn1014 = true := by kernel_rfl
theorem ok1015 : fnOK Tryz.prog 17 fn1015 = true := by kernel_rfl
theorem ok1016 : fnOK Tryz.prog 18 fn1016 = true := by kernel_rfl
theorem ok57 : fnOK Tryz.prog 19 fn57 = true := by kernel_rfl
theorem ok54 : fnOK Tryz.prog 20 fn54 = true := by kernel_rfl
theorem ok55 : fnOK Tryz.prog 21 fn55 = true := by kernel_rfl
theorem ok63 : fnOK Tryz.prog 22 fn63 = true := by kernel_rfl
theorem ok1017 : fnOK Tryz.prog 23 fn1017 = true := by kernel_rfl
theorem ok1018 : fnOK Tryz.prog 24 fn1018 = true := by kernel_rfl
theorem ok1019 : fnOK Tryz.prog 25 fn1019 = true := by kernel_rfl
theorem ok1020 : fnOK Tryz.prog 26 fn1020 = true := by kernel_rfl
theorem ok91 : fnOK Tryz.prog 27 fn91 = true := by kernel_rfl
theorem ok48 : fnOK Tryz.prog 28 fn48 = true := by kernel_rfl
theorem ok121 : fnOK Tryz.prog 29 fn121 = true := by kernel_rfl
theorem ok59 : fnOK Tryz.prog 30 fn59 = true := by kernel_rfl
theorem ok94 : fnOK Tryz.prog 31 fn94 = true := by kernel_rfl
theorem ok1022 : fnOK Tryz.prog 33 fn1022 = true := by kernel_rfl
theorem ok117 : fnOK Tryz.prog 34 fn117 = true := by kernel_rfl
theorem ok92 : fnOK Tryz.prog 35 fn92 = true := by kernel_rfl
theorem ok97 : fnOK Tryz.prog 36 fn97 = true := by kernel_rfl
theorem ok66 : fnOK Tryz.prog 37 fn66 = true := by kernel_rfl
theorem ok50 : fnOK Tryz.prog 38 fn50 = true := by kernel_rfl
theorem ok62 : fnOK Tryz.prog 39 fn62 = true := by kernel_rfl
theorem ok61 : fnOK Tryz.prog 40 fn61 = true := by kernel_rfl
theorem ok1023 : fnOK Tryz.prog 41 fn1023 = true := by kernel_rfl
theorem ok96 : fnOK Tryz.prog 42 fn96 = true := by kernel_rfl
theorem ok95 : fnOK Tryz.prog 43 fn95 = true := by kernel_rfl
theorem ok93 : fnOK Tryz.prog 44 fn93 = true := by kernel_rfl
theorem ok1024 : fnOK Tryz.prog 45 fn1024 = true := by kernel_rfl
theorem ok1025 : fnOK Tryz.prog 46 fn1025 = true := by kernel_rfl
theorem ok56 : fnOK Tryz.prog 47 fn56 = true := by kernel_rfl
theorem ok1028 : fnOK Tryz.prog 50 fn1028 = true := by kernel_rfl
theorem ok86 : fnOK Tryz.prog 52 fn86 = true := by kernel_rfl
theorem ok88 : fnOK Tryz.prog 54 fn88 = true := by kernel_rfl
theorem ok89 : fnOK Tryz.prog 55 fn89 = true := by kernel_rfl
theorem ok120 : fnOK Tryz.prog 56 fn120 = true := by kernel_rfl
theorem ok133 : fnOK Tryz.prog 59 fn133 = true := by kernel_rfl
theorem ok122 : fnOK Tryz.prog 60 fn122 = true := by kernel_rfl
theorem ok101 : fnOK Tryz.prog 61 fn101 = true := by kernel_rfl
theorem ok119 : fnOK Tryz.prog 62 fn119 = true := by kernel_rfl
theorem ok1030 : fnOK Tryz.prog 63 fn1030 = true := by kernel_rfl
theorem ok1032 : fnOK Tryz.prog 65 fn1032 = true := by kernel_rfl
theorem ok1033 : fnOK Tryz.prog 66 fn1033 = true := by kernel_rfl
theorem ok125 : fnOK Tryz.prog 81 fn125 = true := by kernel_rfl
theorem ft_ok : FTOK Tryz.prog ft := by
  intro f x h
  unfold ft at h
  split at h
  · injection h with h; subst h; exact ok1001
  · injection h with h; subst h; exact ok1002
  · injection h with h; subst h; exact ok1003
  · injection h with h; subst h; exact ok1004
  · injection h with h; subst h; exact ok1005
  · injection h with h; subst h; exact ok1006
  · injection h with h; subst h; exact ok1007
  · injection h with h; subst h; exact ok1008
  · injection h with h; subst h; exact ok1009
  · injection h with h; subst h; exact ok1010
  · injection h with h; subst h; exact ok1011
  · injection h with h; subst h; exact ok1012
  · injection h with h; subst h; exact ok1013
  · injection h with h; subst h; exact ok1014
  · injection h with h; subst h; exact ok1015
  · injection h with h; subst h; exact ok1016
  · injection h with h; subst h; exact ok57
  · injection h with h; subst h; exact ok54
  · injection h with h; subst h; exact ok55
  · injection h with h; subst h; exact ok63
  · injection h with h; subst h; exact ok1017
  · injection h with h; subst h; exact ok1018
  · injection h with h; subst h; exact ok1019
  · injection h with h; subst h; exact ok1020
  · injection h with h; subst h; exact ok91
  · injection h with h; subst h; exact ok48
  · injection h with h; subst h; exact ok121
  · injection h with h; subst h; exact ok59
  · injection h with h; subst h; exact ok94
  · injection h with h; subst h; exact sortSt_ok
  · injection h with h; subst h; exact ok1022
  · injection h with h; subst h; exact ok117
  · injection h with h; subst h; exact ok92
  · injection h with h; subst h; exact ok97
  · injection h with h; subst h; exact ok66
  · injection h with h; subst h; exact ok50
  · injection h with h; subst h; exact ok62
  · injection h with h; subst h; exact ok61
  · injection h with h; subst h; exact ok1023
  · injection h with h; subst h; exact ok96
  · injection h with h; subst h; exact ok95
  · injection h with h; subst h; exact ok93
  · injection h with h; subst h; exact ok1024
  · injection h with h; subst h; exact ok1025
  · injection h with h; subst h; exact ok56
  · injection h with h; subst h; exact sortI_ok
  · injection h with h; subst h; exact comp_ok
  · injection h with h; subst h; exact ok1028
  · injection h with h; subst h; exact sf_ok
  · injection h with h; subst h; exact ok86
  · injection h with h; subst h; exact ord_ok
  · injection h with h; subst h; exact ok88
  · injection h with h; subst h; exact ok89
  · injection h with h; subst h; exact ok120
  · injection h with h; subst h; exact ok133
  · injection h with h; subst h; exact ok122
  · injection h with h; subst h; exact ok101
  · injection h with h; subst h; exact ok119
  · injection h with h; subst h; exact ok1030
  · injection h with h; subst h; exact ok1032
  · injection h with h; subst h; exact ok1033
  · injection h with h; subst h; exact ok125
  · cases h
theorem orders : Tryz.prog.follows .mixedOrders = true := by kernel_rfl
end Go.Proofs.Abs
