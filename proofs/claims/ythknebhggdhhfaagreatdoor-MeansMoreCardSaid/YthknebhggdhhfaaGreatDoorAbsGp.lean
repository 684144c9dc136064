/- A part of a proof: the text that states the row tells what is proved. No condition is laid on anything. -/
import Derived.Test.YthknebhggdhhfaaGreatDoorAbsGl
set_option linter.all false
set_option linter.constructorNameAsVariable false
set_option linter.defProp false
set_option linter.unusedVariables false
set_option linter.unusedSimpArgs false
set_option maxRecDepth 100000
set_option maxHeartbeats 16000000
namespace Go.Proofs.Abs
open Go
theorem i64_0 : I64 0 := ⟨by decide, by decide⟩
theorem i64_1 : I64 1 := ⟨by decide, by decide⟩
theorem i64_2 : I64 2 := ⟨by decide, by decide⟩
theorem i64_5 : I64 5 := ⟨by decide, by decide⟩
theorem wfs_nil : WfS [] := ⟨by decide, fun x hx => by cases hx⟩
theorem wfs_all : WfS allSet := ⟨by decide, fun x hx => by
  unfold allSet at hx
  rw [List.mem_singleton] at hx; subst hx
  exact ⟨⟨by decide, by decide⟩, ⟨by decide, by decide⟩⟩⟩
theorem wf_leafAll : WfN leafAll := ⟨i64_2, i64_0, i64_0, wfs_all, by decide⟩
theorem sms_all : SmS [leafAll] := ⟨⟨by decide, by intro x hx; rw [List.mem_singleton] at hx; subst hx; exact wf_leafAll⟩, by decide⟩
theorem star_all : starTT [leafAll] = allTree ∧ starB [leafAll] = true := by
  have h : starB [leafAll] = true := by decide
  exact ⟨by rw [starTT, if_pos h]; rfl, h⟩
theorem one_all : oneT allSet ⟨#[]⟩ = [leafAll] ∧ oneB allSet = true := by
  have h : oneB allSet = true := by decide
  exact ⟨by rw [oneT, if_pos h]; rfl, h⟩
theorem wf_allTree : SmS allTree := by
  refine ⟨⟨by decide, ?_⟩, by decide⟩
  intro x hx
  rcases List.mem_cons.1 hx with rfl | hx
  · exact wf_leafAll
  · rw [List.mem_singleton] at hx
    subst hx
    exact ⟨i64_5, i64_0, i64_0, wfs_nil, by decide⟩
theorem wf_leafT (k : Int) : SmS (leafT k) := by
  refine ⟨⟨by simp [leafT], ?_⟩, ?_⟩
  · intro x hx
    unfold leafT at hx
    rw [List.mem_singleton] at hx
    subst hx
    refine ⟨?_, i64_0, i64_0, wfs_nil, Nat.zero_le _⟩
    simp only
    split
    · exact i64_1
    · exact i64_0
  · intro x hx
    unfold leafT at hx
    rw [List.mem_singleton] at hx
    subst hx
    simp
theorem nm_allTree (names : List Nm) : treeNm names allTree = true := by
  unfold treeNm
  rw [good_allTree, Bool.true_and]
  rfl
theorem nm_leafT (names : List Nm) (k : Int) (hk : k = 0 ∨ k = 1) : treeNm names (leafT k) = true := by
  rcases hk with rfl | rfl <;> rfl
def Extra (r : Rs) (L : List Rl) : Prop := ∀ x ∈ L, x ∈ r.list ∨ ∃ b, x = ruleNone b ∨ x = ruleAll b
theorem good_with {r : Rs} {L : List Rl} (h : goodR r = true) (hx : Extra r L) (hl : L.length ≤ 40) (e : Bool) : goodR (withL r L e) = true := by
  unfold goodR at h ⊢
  simp only [Bool.and_eq_true, decide_eq_true_eq, List.all_eq_true] at h ⊢
  refine ⟨⟨h.1.1, fun x hm => ?_⟩, hl⟩
  rcases hx x hm with h1 | ⟨b, rfl | rfl⟩
  · exact h.1.2 x h1
  · exact ⟨nm_allTree _, nm_leafT _ 0 (.inl rfl)⟩
  · exact ⟨nm_allTree _, nm_leafT _ 1 (.inr rfl)⟩
theorem mean_with {r : Rs} {l : List Int} {L : List Rl} (h : MeanD r l) (hx : Extra r L) (hl : L.length ≤ 100) (e : Bool) : MeanD (withL r L e) l := by
  have hn : SmS allTree ∧ allTree.length ≤ 1000000 := ⟨wf_allTree, by decide⟩
  have hk : ∀ k, (leafT k).length ≤ 1000000 := fun k => by simp [leafT]
  refine ⟨⟨⟨h.r.wf.names, ?_, fun x hm => ?_⟩, ⟨h.r.own.names, fun x hm => ?_, ?_⟩⟩, h.l⟩
  · show L.length ≤ _; omega
  · rcases hx x hm with h1 | ⟨b, rfl | rfl⟩
    · exact h.r.wf.list.2 x h1
    · exact ⟨hn.1.wf, (wf_leafT 0).wf⟩
    · exact ⟨hn.1.wf, (wf_leafT 1).wf⟩
  · rcases hx x hm with h1 | ⟨b, rfl | rfl⟩
    · exact h.r.own.all x h1
    · exact ⟨⟨hn.1.set, hn.2⟩, ⟨(wf_leafT 0).set, hk 0⟩⟩
    · exact ⟨⟨hn.1.set, hn.2⟩, ⟨(wf_leafT 1).set, hk 1⟩⟩
  · show L.length ≤ _; omega
theorem okR_with {r : Rs} {l : List Int} {L : List Rl} (h : goodR r = true) (hx : Extra r L) (hl : L.length ≤ 40) (e : Bool) : okR (withL r L e) l = okR r l := by
  unfold okR
  rw [good_with h hx hl e, h]
theorem plA_none {r : Rs} {l : List Int} {A B : List Rl} {b : Bool} (hr : r.list = A ++ B) (h : okR (withL r (A ++ [ruleNone b] ++ B) r.els) l = okR r l) : plA (withL r (A ++ [ruleNone b] ++ B) r.els) l = plA r l := by
  unfold plA
  rw [h]
  congr 1
  refine breaks_congr fun i hi => ?_
  rw [break_none (tells_none b l i), ← hr]
  rfl
theorem plA_all {r : Rs} {l : List Int} {A B : List Rl} {b e e' : Bool} (h : okR (withL r (A ++ [ruleAll b] ++ B) e) l = okR (withL r (A ++ [ruleAll b]) e') l) : plA (withL r (A ++ [ruleAll b] ++ B) e) l = plA (withL r (A ++ [ruleAll b]) e') l := by
  unfold plA
  rw [h]
  cases hk : okR (withL r (A ++ [ruleAll b]) e') l with
  | false => rfl
  | true =>
    simp only [okR, Bool.and_eq_true] at hk
    simp only [if_true]
    exact breaks_congr fun i hi => break_all (tells_all hi hk.2)
theorem run1223 (r : Rs) (l : List Int) (n : Nat) (wr : WfR r) (wl : l.length ≤ 9223372036854775807 ∧ ∀ x ∈ l, I64 x) (hn : n < 256) : cwp o4 5 [] [(AV.agg [(AV.list 2 (List.map eNm (Rs.names r))), (AV.list 3 (List.map eRl (Rs.list r))), AV.bool (Rs.els r)]), (AV.list 1 (List.map (fun x => [AV.int .i64 x]) (l))), .int .u8 n] [] (fun v H => v = .bool true ∧ H = []) := by
  refine run_fn (fn := fn1223) rfl rfl ?_
  have dl : WfRow l := ⟨wl.1⟩
  cases g : lightR r l with
  | false =>
    simp (maxSteps := 2000000) only [fn1223_body, c1223, D0, SP0, seval, -Int.reduceNatCast', @use_all o4 11 k1229.ora rfl, e1229, @use_all o4 12 kW.ora rfl, eW, wr, dl, g, fz_rules]
    simp only [F1, SF0, SP0, seval, -Int.reduceNatCast', fn1223_res, fn1223_keep]
  | true =>
  have L := light_rules wr g
  have lm := L.mean
  have lg := L.good
  have ll := L.row
  have lr := L.list
  have ro := L.mean.l
  cases gg : goodR r with
  | false =>
    simp (maxSteps := 2000000) only [fn1223_body, c1223, D0, SP0, seval, -Int.reduceNatCast', @use_all o4 11 k1229.ora rfl, e1229, @use_all o4 22 k1239.ora rfl, e1239, @use_all o4 12 kW.ora rfl, eW, wr, dl, g, gg, lg, goodRef_eq, fz_rules]
    simp only [F1, SF0, SP0, seval, -Int.reduceNatCast', fn1223_res, fn1223_keep]
  | true =>
  by_cases h40 : (r.list.length : Int) ≥ 40
  · simp (maxSteps := 2000000) only [fn1223_body, c1223, D0, SP0, seval, -Int.reduceNatCast', @use_all o4 11 k1229.ora rfl, e1229, @use_all o4 22 k1239.ora rfl, e1239, @use_all o4 12 kW.ora rfl, eW, wr, dl, g, gg, lg, h40, goodRef_eq, fz_rules, decide_true]
    simp only [F1, SF0, SP0, seval, -Int.reduceNatCast', fn1223_res, fn1223_keep]
  obtain ⟨k, hk⟩ : ∃ k, k = n % (r.list.length + 1) := ⟨_, rfl⟩
  have hkl : k ≤ r.list.length := by
    have := Nat.mod_lt n (show 0 < r.list.length + 1 by omega)
    omega
  have w1 : IntKind.i64.wrap (n : Int) = (n : Int) := wrap64 (by omega) (by omega)
  have w2 := wrapp (j := r.list.length) (by omega)
  have nz : (((r.list.length + 1 : Nat) : Int) = 0) = False := eq_false (by omega)
  have tm : (n : Int).tmod ((r.list.length + 1 : Nat) : Int) = (k : Int) := by rw [hk]; rfl
  have er := fun q H => e1232 r l lm q H
  rw [tellsL_eq] at er
  obtain ⟨T1, hT1⟩ : ∃ t, t = [leafAll] := ⟨_, rfl⟩
  obtain ⟨T2, hT2⟩ : ∃ t, t = allTree := ⟨_, rfl⟩
  obtain ⟨N0, hN0⟩ : ∃ t, t = leafT 0 := ⟨_, rfl⟩
  obtain ⟨N1, hN1⟩ : ∃ t, t = leafT 1 := ⟨_, rfl⟩
  have f22 : ∀ q H, k22.ora q [.list 2 [[.int .i64 0, .int .i64 1114111]], .str ⟨#[]⟩] H = some (.tuple [(AV.list 5 (List.map eNd T1)), .bool true], H) := by
    intro q H
    have h := e22 allSet ⟨#[]⟩ (by decide) q H
    rw [one_all.1, one_all.2, ← hT1] at h
    exact h
  have f21 : ∀ q H, k21.ora q [(AV.list 5 (List.map eNd T1))] H = some (.tuple [(AV.list 5 (List.map eNd T2)), .bool true], H) := by
    intro q H
    have h := e21 T1 (by rw [hT1]; exact ⟨sms_all, by decide⟩) q H
    rw [hT1, star_all.1, star_all.2, ← hT2, ← hT1] at h
    exact h
  have f34a : ∀ q H, k34.ora q [.int .i64 0] H = some ((AV.list 5 (List.map eNd N0)), H) := by
    intro q H
    have h := e34 0 q H
    rw [← hN0] at h
    exact h
  have f34b : ∀ q H, k34.ora q [.int .i64 1] H = some ((AV.list 5 (List.map eNd N1)), H) := by
    intro q H
    have h := e34 1 q H
    rw [← hN1] at h
    exact h
  have f1231 := fun q H => e1231 r L.own q H
  have hsp : r.list = r.list.take k ++ r.list.drop k := (List.take_append_drop k r.list).symm
  obtain ⟨A, hA⟩ : ∃ A, A = r.list.take k := ⟨_, rfl⟩
  obtain ⟨B, hB⟩ : ∃ B, B = r.list.drop k := ⟨_, rfl⟩
  rw [← hA, ← hB] at hsp
  have lA : A.length = k := by rw [hA, List.length_take]; omega
  have lB : B.length = r.list.length - k := by rw [hB, List.length_drop]
  have mA : List.take k (List.map eRl r.list) = List.map eRl A := by rw [hA]; exact List.map_take.symm
  have mB : List.drop k (List.take r.list.length (List.map eRl r.list)) = List.map eRl B := by rw [hB, List.take_of_length_le (by simp)]; exact List.map_drop.symm
  have inA : ∀ x ∈ A, x ∈ r.list := fun x hx => by rw [hsp]; exact List.mem_append.2 (.inl hx)
  have inB : ∀ x ∈ B, x ∈ r.list := fun x hx => by rw [hsp]; exact List.mem_append.2 (.inr hx)
  obtain ⟨S, hS⟩ : ∃ S, S = A ++ [ruleNone (!r.els)] ++ B := ⟨_, rfl⟩
  obtain ⟨TT, hTT⟩ : ∃ S, S = A ++ [ruleAll true] := ⟨_, rfl⟩
  obtain ⟨D, hD⟩ : ∃ S, S = TT ++ B := ⟨_, rfl⟩
  have lS' : S.length = A.length + 1 + B.length := by rw [hS]; simp; omega
  have lS : S.length ≤ 40 := by omega
  have lT : TT.length = k + 1 := by rw [hTT]; simp; omega
  have lD' : D.length = A.length + 1 + B.length := by rw [hD, List.length_append]; omega
  have lD : D.length ≤ 40 := by omega
  have xS : Extra r S := by
    intro x hx
    rw [hS] at hx
    simp only [List.mem_append, List.mem_singleton] at hx
    rcases hx with (h | h) | h
    · exact .inl (inA x h)
    · exact .inr ⟨_, .inl h⟩
    · exact .inl (inB x h)
  have xT : Extra r TT := by
    intro x hx
    rw [hTT] at hx
    simp only [List.mem_append, List.mem_singleton] at hx
    rcases hx with h | h
    · exact .inl (inA x h)
    · exact .inr ⟨_, .inr h⟩
  have xD : Extra r D := by
    intro x hx
    rw [hD] at hx
    rcases List.mem_append.1 hx with h | h
    · exact xT x h
    · exact .inl (inB x h)
  have oS := okR_with (l := l) gg xS lS r.els
  have oT := okR_with (l := l) gg xT (by omega) r.els
  have oD := okR_with (l := l) gg xD lD (!r.els)
  have pS : plA (withL r S r.els) l = plA r l := by
    rw [hS] at oS ⊢
    exact plA_none hsp oS
  have pD : plA (withL r D (!r.els)) l = plA (withL r TT r.els) l := by
    rw [hD, hTT] at oD ⊢
    rw [hTT] at oT
    exact plA_all (by rw [oD, oT])
  have mS : List.map eRl A ++ [[(AV.list 5 (List.map eNd T2)), (AV.list 5 (List.map eNd N0)), .bool (!r.els)]] ++ List.map eRl B = List.map eRl S := by rw [hS, hT2, hN0]; simp [eRl, ruleNone]
  have mT : List.map eRl A ++ [[(AV.list 5 (List.map eNd T2)), (AV.list 5 (List.map eNd N1)), .bool true]] = List.map eRl TT := by rw [hTT, hT2, hN1]; simp [eRl, ruleAll]
  have mD : List.map eRl TT ++ List.map eRl B = List.map eRl D := by rw [hD]; exact List.map_append.symm
  have fS : ∀ q H, k1232.ora q [.agg [(AV.list 2 (List.map eNm (r.names))), (AV.list 3 (List.map eRl (S))), .bool r.els], (AV.list 1 (List.map (fun x => [AV.int .i64 x]) (l)))] H = some (.tuple [(AV.list 1 (List.map (fun x => [AV.int .i64 x]) (plA r l))), .bool (okR r l)], H) := by
    intro q H
    have h := e1232 (withL r S r.els) l (mean_with lm xS (by omega) _) q H
    rw [tellsL_eq, pS, oS] at h
    exact h
  have fT : ∀ q H, k1232.ora q [.agg [(AV.list 2 (List.map eNm (r.names))), (AV.list 3 (List.map eRl (TT))), .bool r.els], (AV.list 1 (List.map (fun x => [AV.int .i64 x]) (l)))] H = some (.tuple [(AV.list 1 (List.map (fun x => [AV.int .i64 x]) (plA (withL r TT r.els) l))), .bool (okR r l)], H) := by
    intro q H
    have h := e1232 (withL r TT r.els) l (mean_with lm xT (by omega) _) q H
    rw [tellsL_eq, oT] at h
    exact h
  have fD : ∀ q H, k1232.ora q [.agg [(AV.list 2 (List.map eNm (r.names))), (AV.list 3 (List.map eRl (D))), .bool (!r.els)], (AV.list 1 (List.map (fun x => [AV.int .i64 x]) (l)))] H = some (.tuple [(AV.list 1 (List.map (fun x => [AV.int .i64 x]) (plA (withL r TT r.els) l))), .bool (okR r l)], H) := by
    intro q H
    have h := e1232 (withL r D (!r.els)) l (mean_with lm xD (by omega) _) q H
    rw [tellsL_eq, pD, oD] at h
    exact h
  have hpT : (plA (withL r TT r.els) l).length ≤ 9223372036854775807 := by have := plA_le (withL r TT r.els) l; omega
  generalize plA (withL r TT r.els) l = pT at fT fD hpT
  have hp1 : (plA r l).length ≤ 9223372036854775807 := by have := plA_le r l; omega
  clear hS hTT hD xS xT xD oS oT oD pS pD hA hB hsp inA inB hT1 hT2 hN0 hN1
  have hkr : k ≤ r.list.length := hkl
  have hkr2 : (k : Int) ≤ (r.list.length : Int) := by omega
  have hzA : (A.length = 0 + A.length) = True := eq_true (by omega)
  have hzA2 : (A.length + 1 = 0 + A.length + 1) = True := eq_true (by omega)
  have hzS : (S.length = 0 + A.length + 1 + B.length) = True := eq_true (by rw [lS']; omega)
  have hzT : (TT.length = 0 + A.length + 1) = True := eq_true (by omega)
  have hzD : (D.length = 0 + A.length + 1 + B.length) = True := eq_true (by rw [lD']; omega)
  have cA2 : (0 + A.length + 1) * 56 ≤ 140737488355328 := by omega
  have cA3 : (0 + A.length + 1 + B.length) * 56 ≤ 140737488355328 := by omega
  have cA : (0 + A.length) * 56 ≤ 140737488355328 := by omega
  simp (maxSteps := 4000000) only [fn1223_body, c1223, D0, SP0, seval, -Int.reduceNatCast', @use_all o4 11 k1229.ora rfl, e1229, @use_all o4 22 k1239.ora rfl, e1239, @use_all o4 18 k1023.ora rfl, e1023, hp1, hpT, @use_all o4 12 kW.ora rfl, eW, beq_self_eq_true, @use_all o4 14 k1232.ora rfl, er, fS, @use_all o4 25 k22.ora rfl, f22, @use_all o4 26 k21.ora rfl, f21, @use_all o4 27 k34.ora rfl, f34a, f34b, @use_all o4 13 k1231.ora rfl, f1231, w1, w2, nz, tm, if_false, Option.map_some, wr, dl, g, gg, lg, h40, goodRef_eq, fz_rules, fz, fzd, fzd.fzcells, hkr, hkr2, mA, mB, mS, mT, mD, cA, cA2, cA3, hzA, hzA2, hzS, hzT, hzD, fT, fD, List.length_singleton, lrc_y, lrc_n, lrc_x, apx, apart, apart1, needs, keeps, beqO_refl, Nat.le_refl, Nat.zero_le, and_self, Nat.sub_zero, List.drop_zero, List.nil_append, List.length_map, List.length_append, Int.natCast_nonneg, Int.toNat_natCast, decide_true, decide_false]
  simp only [F1, SF0, SP0, seval, -Int.reduceNatCast', fn1223_res, fn1223_keep]
end Go.Proofs.Abs
