import Derived.Test.YtdmnnbmjhpoipaaGreatDoorAbsW1
import Derived.Test.YtdmnnbmjhpoipaaGreatDoorAbsW2
import Derived.Test.YtdmnnbmjhpoipaaGreatDoorAbsW3
import Derived.Test.YtdmnnbmjhpoipaaGreatDoorAbsW4
set_option maxRecDepth 1000000
namespace Go.Proofs.Abs
open Go
theorem hW1_25 : (tW1_25.all fun x => okd ft 25 x.1 x.2) = true := by simp only [tW1_25, List.all_cons, List.all_nil, cW35, Bool.and_self]
theorem hW1_42 : (tW1_42.all fun x => okd ft 42 x.1 x.2) = true := by simp only [tW1_42, List.all_cons, List.all_nil, cW27, Bool.and_self]
theorem hW1_43 : (tW1_43.all fun x => okd ft 43 x.1 x.2) = true := by simp only [tW1_43, List.all_cons, List.all_nil, cW3, cW7, Bool.and_self]
theorem hW1_65 : (tW1_65.all fun x => okd ft 65 x.1 x.2) = true := by simp only [tW1_65, List.all_cons, List.all_nil, cW16, cW19, Bool.and_self]
theorem hW1_84 : (tW1_84.all fun x => okd ft 84 x.1 x.2) = true := by simp only [tW1_84, List.all_cons, List.all_nil, cW30, Bool.and_self]
theorem hW1_120 : (tW1_120.all fun x => okd ft 120 x.1 x.2) = true := by simp only [tW1_120, List.all_cons, List.all_nil, cW0, cW1, Bool.and_self]
theorem hW1_100068 : (tW1_100068.all fun x => okd ft 100068 x.1 x.2) = true := by simp only [tW1_100068, List.all_cons, List.all_nil, cW22, cW23, cW24, Bool.and_self]
theorem wW1_ok : FTOK Tryz.prog wW1 := upd_ok2 (f := 100068) (upd_ok2 (f := 120) (upd_ok2 (f := 84) (upd_ok2 (f := 65) (upd_ok2 (f := 43) (upd_ok2 (f := 42) (upd_ok2 (f := 25) (ft_ok) (memoF_ok orders ft_ok (by decide +kernel) hW1_25)) (memoF_ok orders ft_ok (by decide +kernel) hW1_42)) (memoF_ok orders ft_ok (by decide +kernel) hW1_43)) (memoF_ok orders ft_ok (by decide +kernel) hW1_65)) (memoF_ok orders ft_ok (by decide +kernel) hW1_84)) (memoF_ok orders ft_ok (by decide +kernel) hW1_120)) (memoF_ok orders ft_ok (by decide +kernel) hW1_100068)
theorem hW2_26 : (tW2_26.all fun x => okd wW1 26 x.1 x.2) = true := by simp only [tW2_26, List.all_cons, List.all_nil, cW4, cW8, Bool.and_self]
theorem hW2_56 : (tW2_56.all fun x => okd wW1 56 x.1 x.2) = true := by simp only [tW2_56, List.all_cons, List.all_nil, cW2, Bool.and_self]
theorem wW2_ok : FTOK Tryz.prog wW2 := upd_ok2 (f := 56) (upd_ok2 (f := 26) (wW1_ok) (memoF_ok orders wW1_ok (by decide +kernel) hW2_26)) (memoF_ok orders wW1_ok (by decide +kernel) hW2_56)
theorem hW3_102 : (tW3_102.all fun x => okd wW2 102 x.1 x.2) = true := by simp only [tW3_102, List.all_cons, List.all_nil, cW5, cW9, Bool.and_self]
theorem wW3_ok : FTOK Tryz.prog wW3 := upd_ok2 (f := 102) (wW2_ok) (memoF_ok orders wW2_ok (by decide +kernel) hW3_102)
theorem hW4_82 : (tW4_82.all fun x => okd wW3 82 x.1 x.2) = true := by simp only [tW4_82, List.all_cons, List.all_nil, cW6, cW10, Bool.and_self]
theorem wW4_ok : FTOK Tryz.prog wW4 := upd_ok2 (f := 82) (wW3_ok) (memoF_ok orders wW3_ok (by decide +kernel) hW4_82)
theorem hW5_66 : (tW5_66.all fun x => okd wW4 66 x.1 x.2) = true := by simp only [tW5_66, List.all_cons, List.all_nil, cW11, cW13, Bool.and_self]
theorem wW5_ok : FTOK Tryz.prog wW5 := upd_ok2 (f := 66) (wW4_ok) (memoF_ok orders wW4_ok (by decide +kernel) hW5_66)
theorem hW6_42 : (tW6_42.all fun x => okd wW5 42 x.1 x.2) = true := by simp only [tW6_42, List.all_cons, List.all_nil, cW12, cW14, cW17, cW20, cW34, Bool.and_self]
theorem wW6_ok : FTOK Tryz.prog wW6 := upd_ok2 (f := 42) (wW5_ok) (memoF_ok orders wW5_ok (by decide +kernel) hW6_42)
theorem hW7_15 : (tW7_15.all fun x => okd wW6 15 x.1 x.2) = true := by simp only [tW7_15, List.all_cons, List.all_nil, cW26, Bool.and_self]
theorem hW7_25 : (tW7_25.all fun x => okd wW6 25 x.1 x.2) = true := by simp only [tW7_25, List.all_cons, List.all_nil, cW15, cW21, Bool.and_self]
theorem hW7_45 : (tW7_45.all fun x => okd wW6 45 x.1 x.2) = true := by simp only [tW7_45, List.all_cons, List.all_nil, cW25, Bool.and_self]
theorem wW7_ok : FTOK Tryz.prog wW7 := upd_ok2 (f := 45) (upd_ok2 (f := 25) (upd_ok2 (f := 15) (wW6_ok) (memoF_ok orders wW6_ok (by decide +kernel) hW7_15)) (memoF_ok orders wW6_ok (by decide +kernel) hW7_25)) (memoF_ok orders wW6_ok (by decide +kernel) hW7_45)
theorem hW8_24 : (tW8_24.all fun x => okd wW7 24 x.1 x.2) = true := by simp only [tW8_24, List.all_cons, List.all_nil, cW18, Bool.and_self]
theorem hW8_47 : (tW8_47.all fun x => okd wW7 47 x.1 x.2) = true := by simp only [tW8_47, List.all_cons, List.all_nil, cW28, Bool.and_self]
theorem hW8_81 : (tW8_81.all fun x => okd wW7 81 x.1 x.2) = true := by simp only [tW8_81, List.all_cons, List.all_nil, cW31, Bool.and_self]
theorem wW8_ok : FTOK Tryz.prog wW8 := upd_ok2 (f := 81) (upd_ok2 (f := 47) (upd_ok2 (f := 24) (wW7_ok) (memoF_ok orders wW7_ok (by decide +kernel) hW8_24)) (memoF_ok orders wW7_ok (by decide +kernel) hW8_47)) (memoF_ok orders wW7_ok (by decide +kernel) hW8_81)
theorem hW9_27 : (tW9_27.all fun x => okd wW8 27 x.1 x.2) = true := by simp only [tW9_27, List.all_cons, List.all_nil, cW29, Bool.and_self]
theorem hW9_47 : (tW9_47.all fun x => okd wW8 47 x.1 x.2) = true := by simp only [tW9_47, List.all_cons, List.all_nil, cW32, Bool.and_self]
theorem wW9_ok : FTOK Tryz.prog wW9 := upd_ok2 (f := 47) (upd_ok2 (f := 27) (wW8_ok) (memoF_ok orders wW8_ok (by decide +kernel) hW9_27)) (memoF_ok orders wW8_ok (by decide +kernel) hW9_47)
theorem hW10_10 : (tW10_10.all fun x => okd wW9 10 x.1 x.2) = true := by simp only [tW10_10, List.all_cons, List.all_nil, cW33, Bool.and_self]
theorem wW10_ok : FTOK Tryz.prog wW10 := upd_ok2 (f := 10) (wW9_ok) (memoF_ok orders wW9_ok (by decide +kernel) hW10_10)
noncomputable def kW : Kon Unit := ⟨fun _ => True, fun _ => [], fun _ => .bool true⟩
theorem eW (q0 : Id) (H0 : Heap) : kW.ora q0 [] H0 = some (.bool true, H0) := kW.eq (fun _ _ _ => rfl) () trivial q0 H0
theorem ook1140 : OraOK Tryz.prog (8 % 100000) kW.ora := lift2 orders wW10_ok (fun x hd => by simp [kW]) (fun x hd => by simp [kW, PU]) (fun x hd => ⟨400, okd_run cWT⟩)
end Go.Proofs.Abs
