import Derived.Test.YthknebhggdhhfaaGreatDoorAbsW1
import Derived.Test.YthknebhggdhhfaaGreatDoorAbsW2
import Derived.Test.YthknebhggdhhfaaGreatDoorAbsW3
import Derived.Test.YthknebhggdhhfaaGreatDoorAbsW4
import Derived.Test.YthknebhggdhhfaaGreatDoorAbsW5
import Derived.Test.YthknebhggdhhfaaGreatDoorAbsW6
import Derived.Test.YthknebhggdhhfaaGreatDoorAbsW7
set_option maxRecDepth 1000000
namespace Go.Proofs.Abs
open Go
theorem hW1_123 : (tW1_123.all fun x => okd ft 123 x.1 x.2) = true := by simp only [tW1_123, List.all_cons, List.all_nil, cW5, cW7, cW13, cW21, Bool.and_self]
theorem hW1_124 : (tW1_124.all fun x => okd ft 124 x.1 x.2) = true := by simp only [tW1_124, List.all_cons, List.all_nil, cW17, cW27, Bool.and_self]
theorem hW1_128 : (tW1_128.all fun x => okd ft 128 x.1 x.2) = true := by simp only [tW1_128, List.all_cons, List.all_nil, cW0, Bool.and_self]
theorem hW1_206 : (tW1_206.all fun x => okd ft 206 x.1 x.2) = true := by simp only [tW1_206, List.all_cons, List.all_nil, cW1, cW2, Bool.and_self]
theorem wW1_ok : FTOK Tryz.prog wW1 := upd_ok2 (f := 206) (upd_ok2 (f := 128) (upd_ok2 (f := 124) (upd_ok2 (f := 123) (ft_ok) (memoF_ok orders ft_ok (by decide +kernel) hW1_123)) (memoF_ok orders ft_ok (by decide +kernel) hW1_124)) (memoF_ok orders ft_ok (by decide +kernel) hW1_128)) (memoF_ok orders ft_ok (by decide +kernel) hW1_206)
theorem hW2_80 : (tW2_80.all fun x => okd wW1 80 x.1 x.2) = true := by simp only [tW2_80, List.all_cons, List.all_nil, cW6, cW8, cW14, cW22, Bool.and_self]
theorem hW2_187 : (tW2_187.all fun x => okd wW1 187 x.1 x.2) = true := by simp only [tW2_187, List.all_cons, List.all_nil, cW3, Bool.and_self]
theorem wW2_ok : FTOK Tryz.prog wW2 := upd_ok2 (f := 187) (upd_ok2 (f := 80) (wW1_ok) (memoF_ok orders wW1_ok (by decide +kernel) hW2_80)) (memoF_ok orders wW1_ok (by decide +kernel) hW2_187)
theorem hW3_89 : (tW3_89.all fun x => okd wW2 89 x.1 x.2) = true := by simp only [tW3_89, List.all_cons, List.all_nil, cW9, cW15, cW23, Bool.and_self]
theorem hW3_112 : (tW3_112.all fun x => okd wW2 112 x.1 x.2) = true := by simp only [tW3_112, List.all_cons, List.all_nil, cW4, Bool.and_self]
theorem wW3_ok : FTOK Tryz.prog wW3 := upd_ok2 (f := 112) (upd_ok2 (f := 89) (wW2_ok) (memoF_ok orders wW2_ok (by decide +kernel) hW3_89)) (memoF_ok orders wW2_ok (by decide +kernel) hW3_112)
theorem hW4_57 : (tW4_57.all fun x => okd wW3 57 x.1 x.2) = true := by simp only [tW4_57, List.all_cons, List.all_nil, cW10, cW16, cW25, Bool.and_self]
theorem hW4_99 : (tW4_99.all fun x => okd wW3 99 x.1 x.2) = true := by simp only [tW4_99, List.all_cons, List.all_nil, cW24, Bool.and_self]
theorem wW4_ok : FTOK Tryz.prog wW4 := upd_ok2 (f := 99) (upd_ok2 (f := 57) (wW3_ok) (memoF_ok orders wW3_ok (by decide +kernel) hW4_57)) (memoF_ok orders wW3_ok (by decide +kernel) hW4_99)
theorem hW5_69 : (tW5_69.all fun x => okd wW4 69 x.1 x.2) = true := by simp only [tW5_69, List.all_cons, List.all_nil, cW37, cW40, cW42, cW44, cW45, Bool.and_self]
theorem hW5_125 : (tW5_125.all fun x => okd wW4 125 x.1 x.2) = true := by simp only [tW5_125, List.all_cons, List.all_nil, cW11, cW20, cW30, Bool.and_self]
theorem wW5_ok : FTOK Tryz.prog wW5 := upd_ok2 (f := 125) (upd_ok2 (f := 69) (wW4_ok) (memoF_ok orders wW4_ok (by decide +kernel) hW5_69)) (memoF_ok orders wW4_ok (by decide +kernel) hW5_125)
theorem hW6_26 : (tW6_26.all fun x => okd wW5 26 x.1 x.2) = true := by simp only [tW6_26, List.all_cons, List.all_nil, cW12, Bool.and_self]
theorem hW6_87 : (tW6_87.all fun x => okd wW5 87 x.1 x.2) = true := by simp only [tW6_87, List.all_cons, List.all_nil, cW18, cW28, cW31, Bool.and_self]
theorem wW6_ok : FTOK Tryz.prog wW6 := upd_ok2 (f := 87) (upd_ok2 (f := 26) (wW5_ok) (memoF_ok orders wW5_ok (by decide +kernel) hW6_26)) (memoF_ok orders wW5_ok (by decide +kernel) hW6_87)
theorem hW7_55 : (tW7_55.all fun x => okd wW6 55 x.1 x.2) = true := by simp only [tW7_55, List.all_cons, List.all_nil, cW19, cW29, cW32, Bool.and_self]
theorem wW7_ok : FTOK Tryz.prog wW7 := upd_ok2 (f := 55) (wW6_ok) (memoF_ok orders wW6_ok (by decide +kernel) hW7_55)
theorem hW8_24 : (tW8_24.all fun x => okd wW7 24 x.1 x.2) = true := by simp only [tW8_24, List.all_cons, List.all_nil, cW34, cW35, cW36, cW38, cW39, cW41, cW43, cW46, cW47, cW48, cW49, Bool.and_self]
theorem hW8_43 : (tW8_43.all fun x => okd wW7 43 x.1 x.2) = true := by simp only [tW8_43, List.all_cons, List.all_nil, cW26, Bool.and_self]
theorem hW8_62 : (tW8_62.all fun x => okd wW7 62 x.1 x.2) = true := by simp only [tW8_62, List.all_cons, List.all_nil, cW33, Bool.and_self]
theorem wW8_ok : FTOK Tryz.prog wW8 := upd_ok2 (f := 62) (upd_ok2 (f := 43) (upd_ok2 (f := 24) (wW7_ok) (memoF_ok orders wW7_ok (by decide +kernel) hW8_24)) (memoF_ok orders wW7_ok (by decide +kernel) hW8_43)) (memoF_ok orders wW7_ok (by decide +kernel) hW8_62)
theorem hW9_16 : (tW9_16.all fun x => okd wW8 16 x.1 x.2) = true := by simp only [tW9_16, List.all_cons, List.all_nil, cW52, Bool.and_self]
theorem hW9_19 : (tW9_19.all fun x => okd wW8 19 x.1 x.2) = true := by simp only [tW9_19, List.all_cons, List.all_nil, cW50, Bool.and_self]
theorem wW9_ok : FTOK Tryz.prog wW9 := upd_ok2 (f := 19) (upd_ok2 (f := 16) (wW8_ok) (memoF_ok orders wW8_ok (by decide +kernel) hW9_16)) (memoF_ok orders wW8_ok (by decide +kernel) hW9_19)
theorem hW10_14 : (tW10_14.all fun x => okd wW9 14 x.1 x.2) = true := by simp only [tW10_14, List.all_cons, List.all_nil, cW51, Bool.and_self]
theorem wW10_ok : FTOK Tryz.prog wW10 := upd_ok2 (f := 14) (wW9_ok) (memoF_ok orders wW9_ok (by decide +kernel) hW10_14)
noncomputable def kW : Kon Unit := ⟨fun _ => True, fun _ => [], fun _ => .bool true⟩
theorem eW (q0 : Id) (H0 : Heap) : kW.ora q0 [] H0 = some (.bool true, H0) := kW.eq (fun _ _ _ => rfl) () trivial q0 H0
theorem ook1230 : OraOK Tryz.prog (12 % 100000) kW.ora := lift2 orders wW10_ok (fun x hd => by simp [kW]) (fun x hd => by simp [kW, PU]) (fun x hd => ⟨400, okd_run cWT⟩)
end Go.Proofs.Abs
