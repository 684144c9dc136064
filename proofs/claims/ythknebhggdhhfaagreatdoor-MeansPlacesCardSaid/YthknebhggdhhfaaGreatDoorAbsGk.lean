/- A part of a proof: the text that states the row tells what is proved. No condition is laid on anything. -/
import Derived.Test.YthknebhggdhhfaaGreatDoorAbsGj
set_option linter.all false
set_option linter.constructorNameAsVariable false
set_option linter.defProp false
set_option linter.unusedVariables false
set_option linter.unusedSimpArgs false
set_option maxRecDepth 100000
set_option maxHeartbeats 16000000
namespace Go.Proofs.Abs
open Go
theorem run1270 (a b : List (Int × Int)) (ha : a.length ≤ 9223372036854775807) : cwp n8 86 [] [(AV.list 2 (List.map (fun x => [AV.int .i64 x.1, AV.int .i64 x.2]) (a))), (AV.list 2 (List.map (fun x => [AV.int .i64 x.1, AV.int .i64 x.2]) (b)))] [] (fun r H => r = .bool (decide (a = b)) ∧ H = []) := by
  refine run_fn (fn := fn1270) rfl rfl ?_
  by_cases hl : a.length = b.length
  · have hl' : ((a.length : Int) != (b.length : Int)) = false := by simp [hl]
    simp only [fn1270_body, c1270, D0, SP0, seval, -Int.reduceNatCast', hl']
    refine lg_rule (fun j e H => e = [(0, (AV.list 2 (List.map (fun x => [AV.int .i64 x.1, AV.int .i64 x.2]) (a)))), (1, (AV.list 2 (List.map (fun x => [AV.int .i64 x.1, AV.int .i64 x.2]) (b)))), (4, .bool false), (5, .int .i64 j)] ∧ H = [[]] ∧ j ≤ a.length ∧ ∀ i, i < j → a.getD i (0, 0) = b.getD i (0, 0)) a.length ?_ ?_
    · exact ⟨rfl, rfl, by simp, by simp⟩
    rintro j e H ⟨rfl, rfl, hj, hi⟩
    simp only [D0, SP0, seval, -Int.reduceNatCast']
    by_cases h : j < a.length
    · have h' : (j : Int) < (a.length : Int) := by omega
      have hp := wrapp (j := j) (by omega)
      have hga := map_get (f := fun x : Int × Int => [AV.int .i64 x.1, AV.int .i64 x.2]) h (0, 0)
      have hgb := map_get (f := fun x : Int × Int => [AV.int .i64 x.1, AV.int .i64 x.2]) (l := b) (j := j) (by omega) (0, 0)
      have ne : a.getD j (0, 0) ≠ b.getD j (0, 0) → decide (a = b) = false := fun h1 => by
        rw [decide_eq_false_iff_not]
        intro e
        exact h1 (by rw [e])
      have step : a.getD j (0, 0) = b.getD j (0, 0) → ∀ i, i < j + 1 → a.getD i (0, 0) = b.getD i (0, 0) := fun h1 i h2 => by
        by_cases e : i = j
        · rw [e]; exact h1
        · exact hi i (by omega)
      generalize a.getD j (0, 0) = x at hga ne step
      generalize b.getD j (0, 0) = y at hgb ne step
      obtain ⟨x1, x2⟩ := x
      obtain ⟨y1, y2⟩ := y
      by_cases h1 : x1 = y1
      · by_cases h2 : x2 = y2
        · have st := step (by rw [h1, h2])
          clear ne step hi
          simp only [D0, SP0, seval, -Int.reduceNatCast', h', hga, hgb, abins, acells, h1, h2, hp, decide_true, Int.natCast_nonneg, Int.toNat_natCast]
          simp only [F1, SF0, SP0, seval, -Int.reduceNatCast']
          exact ⟨h, h, st⟩
        · have ne' := ne (by simp [h2])
          have h2' : (x2 == y2) = false := by simpa using h2
          clear ne step hi
          simp only [D0, SP0, seval, -Int.reduceNatCast', h', hga, hgb, abins, acells, h1, h2', decide_true, Int.natCast_nonneg, Int.toNat_natCast]
          simp only [F1, SF0, SP0, seval, -Int.reduceNatCast', fn1270_res, fn1270_keep, ne']
      · have ne' := ne (by simp [h1])
        have h1' : (x1 == y1) = false := by simpa using h1
        clear ne step hi
        simp only [D0, SP0, seval, -Int.reduceNatCast', h', hga, hgb, abins, acells, h1', decide_true, Int.natCast_nonneg, Int.toNat_natCast]
        simp only [F1, SF0, SP0, seval, -Int.reduceNatCast', fn1270_res, fn1270_keep, ne']
    · have h' : ¬ (j : Int) < (a.length : Int) := by omega
      have he : decide (a = b) = true := decide_eq_true (ext_getD (0, 0) hl fun i h1 => hi i (by omega))
      simp only [D0, SP0, seval, -Int.reduceNatCast', h', decide_false]
      refine .inr ⟨by simp, ?_⟩
      simp only [F1, SF0, SP0, seval, -Int.reduceNatCast', fn1270_res, fn1270_keep, he]
  · have hl' : ((a.length : Int) != (b.length : Int)) = true := by
      simp only [bne_iff_ne, ne_eq]
      omega
    have he : decide (a = b) = false := by
      rw [decide_eq_false_iff_not]
      intro e
      exact hl (by rw [e])
    simp only [fn1270_body, c1270, D0, SP0, seval, -Int.reduceNatCast', hl']
    simp only [F1, SF0, SP0, seval, -Int.reduceNatCast', fn1270_res, fn1270_keep, he]
noncomputable def k1270 : Kon ((List (Int × Int)) × (List (Int × Int))) := ⟨fun x => x.1.length ≤ 9223372036854775807, fun x => [(AV.list 2 (List.map (fun x => [AV.int .i64 x.1, AV.int .i64 x.2]) (x.1))), (AV.list 2 (List.map (fun x => [AV.int .i64 x.1, AV.int .i64 x.2]) (x.2)))], fun x => .bool (decide (x.1 = x.2))⟩
theorem e1270 (a : List (Int × Int)) (b : List (Int × Int)) (hd : a.length ≤ 9223372036854775807) (q0 : Id) (H0 : Heap) : k1270.ora q0 ([(AV.list 2 (List.map (fun x => [AV.int .i64 x.1, AV.int .i64 x.2]) (a))), (AV.list 2 (List.map (fun x => [AV.int .i64 x.1, AV.int .i64 x.2]) (b)))]) H0 = some (.bool (decide (a = b)), H0) := k1270.eq (set2Inj) (a, b) hd q0 H0
theorem ook1270 : OraOK Tryz.prog (86 % 100000) k1270.ora := k1270.ok orders n8_ok (fun x hd => by simp [k1270, PU]) (fun x hd => by simp [k1270, PU]) (fun x hd => run1270 x.1 x.2 hd)

noncomputable def n9 : FT := upd (n8) 86 k1270.ora
theorem n9_ok : FTOK Tryz.prog n9 := upd_ok2 (f := 86) (n8_ok) ook1270

def emS : ByteArray := ⟨#[]⟩
def nmHit (n : Nd) (m : Nm) : Bool := decide (m.name = n.name) && decide (m.set = n.set)
def ndAny (names : List Nm) (n : Nd) : Bool := decide (n.name.size = 0) || names.any (nmHit n)
def treeAny (names : List Nm) (t : List Nd) : Bool := goodT t && t.all (ndAny names)
theorem any_snoc {names : List Nm} {p : Nm → Bool} {k : Nat} (h : k < names.length) : (names.take (k + 1)).any p = ((names.take k).any p || p (names.getD k default)) := by
  rw [← take_snocN h, List.any_append]; simp
structure NamedD (t : List Nd) (names : List Nm) : Prop where
  wt : WfT t
  wn : NmsD names
theorem run1257 (t : List Nd) (names : List Nm) (hd : NamedD t names) : cwp n9 54 [] [(AV.list 5 (List.map eNd t)), (AV.list 2 (List.map eNm (names)))] [] (fun v H => v = .bool (treeAny names t) ∧ H = []) := by
  refine run_fn (fn := fn1257) rfl rfl ?_
  have wt := hd.wt
  have wn := hd.wn
  have htl := wt.len
  have hnl := wn.len
  cases g : goodT t with
  | false =>
    have hr : treeAny names t = false := by simp [treeAny, g]
    simp only [fn1257_body, c1257, D0, SP0, seval, -Int.reduceNatCast', @use_all n9 48 k30.ora rfl, e30, @use_all n9 55 k29.ora rfl, e29, wt, g]
    simp only [F1, SF0, SP0, seval, -Int.reduceNatCast', fn1257_res, fn1257_keep, hr]
  | true =>
  simp only [fn1257_body, c1257, D0, SP0, seval, -Int.reduceNatCast', @use_all n9 48 k30.ora rfl, e30, @use_all n9 55 k29.ora rfl, e29, wt, g]
  refine lg_rule (fun j e H => e = [(0, (AV.list 5 (List.map eNd t))), (1, (AV.list 2 (List.map eNm (names)))), (4, .bool false), (5, .int .i64 j)] ∧ H = [[]] ∧ j ≤ t.length ∧ ∀ i, i < j → ndAny names (t.getD i default) = true) t.length ?_ ?_
  · exact ⟨rfl, rfl, by simp, by simp⟩
  rintro j e H ⟨rfl, rfl, hj, hi⟩
  by_cases h : j < t.length
  · have h' : (j : Int) < (t.length : Int) := by omega
    have hp := wrapp (j := j) (by omega)
    have hg := map_get (f := eNd) h default
    have hm := getD_mem h
    have bad : ndAny names (t.getD j default) = false → treeAny names t = false := fun h1 => by
      have : t.all (ndAny names) = false := by
        rw [Bool.eq_false_iff]; intro h2
        have := List.all_eq_true.1 h2 _ hm
        rw [h1] at this; cases this
      simp [treeAny, this]
    have step : ndAny names (t.getD j default) = true → ∀ i, i < j + 1 → ndAny names (t.getD i default) = true := fun h1 i h2 => by
      by_cases e : i = j
      · rw [e]; exact h1
      · exact hi i (by omega)
    generalize t.getD j default = n at hg bad step
    obtain ⟨kd, na, nb, nc, z⟩ := n
    clear hi hm
    simp only [D0, SP0, seval, -Int.reduceNatCast', h', hg, eNd, eSet, astr_eql, decide_true, Int.natCast_nonneg, Int.toNat_natCast]
    refine lg_rule (fun k e H => e = [(0, (AV.list 5 (List.map eNd t))), (1, (AV.list 2 (List.map eNm (names)))), (4, .bool false), (5, .int .i64 j), (6, .bool (decide (z.size = 0) || (names.take k).any (nmHit ⟨kd, na, nb, nc, z⟩))), (7, .int .i64 k)] ∧ H = [[], []] ∧ k ≤ names.length) names.length ?_ ?_
    · exact ⟨by simp, rfl, by simp⟩
    rintro k e H ⟨rfl, rfl, hk⟩
    have up : (decide (z.size = 0) || (names.take k).any (nmHit ⟨kd, na, nb, nc, z⟩)) = true → ndAny names ⟨kd, na, nb, nc, z⟩ = true := fun h1 => by
      rw [Bool.or_eq_true] at h1
      unfold ndAny
      rw [Bool.or_eq_true]
      rcases h1 with h1 | h1
      · exact .inl h1
      · refine .inr ?_
        obtain ⟨x, hx, h2⟩ := List.any_eq_true.1 h1
        exact List.any_eq_true.2 ⟨x, List.mem_of_mem_take hx, h2⟩
    have fin : k = names.length → (decide (z.size = 0) || (names.take k).any (nmHit ⟨kd, na, nb, nc, z⟩)) = ndAny names ⟨kd, na, nb, nc, z⟩ := fun e => by
      rw [e, List.take_length]; rfl
    have sn := fun (h : k < names.length) => any_snoc (p := nmHit ⟨kd, na, nb, nc, z⟩) h
    by_cases hk2 : k < names.length
    · have hk' : (k : Int) < (names.length : Int) := by omega
      have hpk := wrapp (j := k) (by omega)
      have hgn := map_get (f := eNm) hk2 default
      have hsm := wn.all (names.getD k default) (by rw [List.getD_eq_getElem?_getD, List.getElem?_eq_getElem hk2]; exact List.getElem_mem hk2)
      have sn := sn hk2
      generalize names.getD k default = m at hgn hsm sn
      obtain ⟨mz, mc⟩ := m
      simp only at hsm
      have hmc : mc.length ≤ 9223372036854775807 := by omega
      cases eo : (decide (z.size = 0) || (names.take k).any (nmHit ⟨kd, na, nb, nc, z⟩)) with
      | true =>
        have step := step (up eo)
        clear bad up fin sn
        simp only [D0, SP0, seval, -Int.reduceNatCast', hk', hp, decide_true]
        exact .inr ⟨by simp, .inl ⟨h, rfl, h, step⟩⟩
      | false =>
        have eo2 : decide (z.size = 0) = false := (Bool.or_eq_false_iff.1 eo).1
        have eo3 : (names.take k).any (nmHit ⟨kd, na, nb, nc, z⟩) = false := (Bool.or_eq_false_iff.1 eo).2
        cases e1 : decide (mz = z) with
        | false =>
          have sn : (decide (z.size = 0) || (names.take (k + 1)).any (nmHit ⟨kd, na, nb, nc, z⟩)) = false := by rw [sn, eo2, eo3]; simp [nmHit, e1]
          clear bad up fin step
          simp only [D0, SP0, seval, -Int.reduceNatCast', hk', hpk, hgn, hg, eNm, eNd, eSet, astr_eql, e1, decide_true, Int.natCast_nonneg, Int.toNat_natCast]
          simp only [F1, SF0, SP0, seval, -Int.reduceNatCast']
          exact ⟨hk2, by rw [sn], hk2⟩
        | true =>
          have sn : (decide (z.size = 0) || (names.take (k + 1)).any (nmHit ⟨kd, na, nb, nc, z⟩)) = decide (mc = nc) := by rw [sn, eo2, eo3]; simp [nmHit, e1]
          clear bad up fin step
          simp only [D0, SP0, seval, -Int.reduceNatCast', @use_all n9 86 k1270.ora rfl, e1270, hmc, hk', hpk, hgn, hg, eNm, eNd, eSet, astr_eql, e1, decide_true, Int.natCast_nonneg, Int.toNat_natCast]
          simp only [F1, SF0, SP0, seval, -Int.reduceNatCast']
          exact ⟨hk2, by rw [sn], hk2⟩
    · have hk' : ¬ (k : Int) < (names.length : Int) := by omega
      have fin := fin (by omega)
      rw [fin]
      cases eo : ndAny names ⟨kd, na, nb, nc, z⟩ with
      | true =>
        have step := step eo
        clear bad up sn fin
        simp only [D0, SP0, seval, -Int.reduceNatCast', hk', hp, decide_false]
        exact .inr ⟨by simp, .inl ⟨h, rfl, h, step⟩⟩
      | false =>
        have bad := bad eo
        clear step up sn fin
        simp only [D0, SP0, seval, -Int.reduceNatCast', hk', decide_false]
        refine .inr ⟨by simp, .inr ⟨by simp, ?_⟩⟩
        simp only [F1, SF0, SP0, seval, -Int.reduceNatCast', fn1257_res, fn1257_keep, bad]
  · have h' : ¬ (j : Int) < (t.length : Int) := by omega
    have he : treeAny names t = true := by
      unfold treeAny
      rw [g, Bool.true_and, List.all_eq_true]
      intro x hx
      obtain ⟨i, hi2, rfl⟩ := List.getElem_of_mem hx
      have := hi i (by omega)
      rw [List.getD_eq_getElem?_getD, List.getElem?_eq_getElem hi2] at this
      exact this
    simp only [D0, SP0, seval, -Int.reduceNatCast', h', decide_false]
    refine .inr ⟨by simp, ?_⟩
    simp only [F1, SF0, SP0, seval, -Int.reduceNatCast', fn1257_res, fn1257_keep, he]
theorem treeNmsInj : ∀ x y : List Nd × List Nm, [(AV.list 5 (List.map eNd x.1)), (AV.list 2 (List.map eNm (x.2)))] = [(AV.list 5 (List.map eNd y.1)), (AV.list 2 (List.map eNm (y.2)))] → x = y := by
  rintro ⟨a, m⟩ ⟨b, n⟩ h
  simp only [List.cons.injEq, and_true] at h
  have h2 := h.2
  simp only [AV.list.injEq, true_and] at h2
  rw [eTree_inj (a := a) (b := b) h.1, eNms_inj h2]
noncomputable def k1257 : Kon (List Nd × List Nm) := ⟨fun x => NamedD x.1 x.2, fun x => [(AV.list 5 (List.map eNd x.1)), (AV.list 2 (List.map eNm (x.2)))], fun x => .bool (treeAny x.2 x.1)⟩
theorem e1257 (t : List Nd) (names : List Nm) (hd : NamedD t names) (q0 : Id) (H0 : Heap) : k1257.ora q0 ([(AV.list 5 (List.map eNd t)), (AV.list 2 (List.map eNm (names)))]) H0 = some (.bool (treeAny names t), H0) := k1257.eq (treeNmsInj) (t, names) hd q0 H0
theorem ook1257 : OraOK Tryz.prog (54 % 100000) k1257.ora := k1257.ok orders n9_ok (fun x hd => by simp [k1257, PU]) (fun x hd => by simp [k1257, PU]) (fun x hd => run1257 x.1 x.2 hd)

noncomputable def n10 : FT := upd (upd (upd (n9) 54 k1257.ora) 52 k1256.ora) 92 k1271.ora
theorem n10_ok : FTOK Tryz.prog n10 := upd_ok2 (f := 92) (upd_ok2 (f := 52) (upd_ok2 (f := 54) (n9_ok) ook1257) ook1256) ook1271

def goodRef (r : Rs) : Bool := namesB r.names && r.list.all (fun x => treeAny r.names x.before && treeAny r.names x.after) && decide (r.list.length ≤ 40)
structure GoodD (r : Rs) : Prop where
  wf : WfR r
  names : NmsD r.names
  len : r.list.length ≤ 1000000
theorem run1239 (r : Rs) (hd : GoodD r) : cwp n10 22 [] [(AV.agg [(AV.list 2 (List.map eNm (Rs.names r))), (AV.list 3 (List.map eRl (Rs.list r))), AV.bool (Rs.els r)])] [] (fun v H => v = .bool (goodRef r) ∧ H = []) := by
  refine run_fn (fn := fn1239) rfl rfl ?_
  have wn := hd.names
  have hnl := wn.len
  have hll := hd.len
  simp only [fn1239_body, c1239, D0, SP0, seval, -Int.reduceNatCast']
  refine lg_rule (fun j e H => e = [(0, (AV.agg [(AV.list 2 (List.map eNm (Rs.names r))), (AV.list 3 (List.map eRl (Rs.list r))), AV.bool (Rs.els r)])), (1, .ref [0] 1 0 0), (2, .bool false), (3, .int .i64 j)] ∧ H = [[([0], .box [(AV.list 2 (List.map eNm (r.names))), (AV.list 3 (List.map eRl (r.list))), .bool r.els])]] ∧ j ≤ r.names.length ∧ ∀ i, i < j → nmOK r.names i = true) r.names.length ?_ ?_
  · exact ⟨rfl, rfl, by simp, by simp⟩
  rintro j e H ⟨rfl, rfl, hj, hi⟩
  by_cases h : j < r.names.length
  · have h' : (j : Int) < (r.names.length : Int) := by omega
    have hp := wrapp (j := j) (by omega)
    have hg := map_get (f := eNm) h default
    have hm : r.names.getD j default ∈ r.names := by rw [List.getD_eq_getElem?_getD, List.getElem?_eq_getElem h]; exact List.getElem_mem h
    have wm := hd.wf.names.2 _ hm
    have bad : nmOK r.names j = false → goodRef r = false := fun h1 => by
      have : namesB r.names = false := by
        rw [Bool.eq_false_iff]; intro h2
        have := List.all_eq_true.1 h2 j (List.mem_range.2 h)
        rw [h1] at this; cases this
      simp [goodRef, this]
    have step : nmOK r.names j = true → ∀ i, i < j + 1 → nmOK r.names i = true := fun h1 i h2 => by
      by_cases e : i = j
      · rw [e]; exact h1
      · exact hi i (by omega)
    have ok : nmOK r.names j = (isNameB (r.names.getD j default).name && decide (0 < (r.names.getD j default).set.length) && goodS (r.names.getD j default).set && (List.range j).all fun k => decide (¬ (r.names.getD k default).name = (r.names.getD j default).name)) := rfl
    generalize r.names.getD j default = n at hg hm wm ok
    obtain ⟨z, c⟩ := n
    obtain ⟨wz, wc⟩ := wm
    simp only at wz wc ok
    have wcl := wc.len
    clear hi
    cases e1 : isNameB z with
    | false =>
      have bad := bad (by rw [ok, e1]; rfl)
      simp only [D0, SP0, seval, -Int.reduceNatCast', @use_all n10 52 k1256.ora rfl, e1256, wz, h', hg, eNm, e1, decide_true, Int.natCast_nonneg, Int.toNat_natCast]
      refine .inr ⟨by simp, ?_⟩
      simp only [F1, SF0, SP0, seval, -Int.reduceNatCast', fn1239_res, fn1239_keep, bad]
    | true =>
    by_cases hc : c = []
    · subst hc
      have bad := bad (by rw [ok]; simp)
      have h00 : (((0 : Nat) : Int) == 0) = true := rfl
      simp only [D0, SP0, seval, -Int.reduceNatCast', @use_all n10 52 k1256.ora rfl, e1256, wz, h', hg, eNm, e1, h00, decide_true, Int.natCast_nonneg, Int.toNat_natCast]
      refine .inr ⟨by simp, ?_⟩
      simp only [F1, SF0, SP0, seval, -Int.reduceNatCast', fn1239_res, fn1239_keep, bad]
    have hc0 : 0 < c.length := List.length_pos_iff.2 hc
    have hc' : ((c.length : Int) == 0) = false := by simp; omega
    cases e2 : goodS c with
    | false =>
      have bad := bad (by rw [ok, e2]; simp)
      simp only [D0, SP0, seval, -Int.reduceNatCast', @use_all n10 52 k1256.ora rfl, e1256, @use_all n10 53 k57.ora rfl, e57, wz, wcl, h', hg, eNm, e1, e2, hc', decide_true, Int.natCast_nonneg, Int.toNat_natCast]
      refine .inr ⟨by simp, ?_⟩
      simp only [F1, SF0, SP0, seval, -Int.reduceNatCast', fn1239_res, fn1239_keep, bad]
    | true =>
    simp only [D0, SP0, seval, -Int.reduceNatCast', @use_all n10 52 k1256.ora rfl, e1256, @use_all n10 53 k57.ora rfl, e57, wz, wcl, h', hg, eNm, e1, e2, hc', decide_true, Int.natCast_nonneg, Int.toNat_natCast]
    refine lg_rule (fun k e H => e = [(0, (AV.agg [(AV.list 2 (List.map eNm (Rs.names r))), (AV.list 3 (List.map eRl (Rs.list r))), AV.bool (Rs.els r)])), (1, .ref [0] 1 0 0), (2, .bool false), (3, .int .i64 j), (4, .ref [3, j, 10] 1 0 0), (5, .int .i64 k)] ∧ H = [[([3, j, 10], .box [.str z, (AV.list 2 (List.map (fun x => [AV.int .i64 x.1, AV.int .i64 x.2]) (c)))])], [([0], .box [(AV.list 2 (List.map eNm (r.names))), (AV.list 3 (List.map eRl (r.list))), .bool r.els])]] ∧ k ≤ j ∧ ∀ i, i < k → ¬ (r.names.getD i default).name = z) j ?_ ?_
    · exact ⟨rfl, rfl, by simp, by simp⟩
    rintro k e H ⟨rfl, rfl, hk, hki⟩
    by_cases hk2 : k < j
    · have hk' : (k : Int) < (j : Int) := by omega
      have hpk := wrapp (j := k) (by omega)
      have hgk := map_get (f := eNm) (l := r.names) (j := k) (by omega) default
      cases e3 : decide ((r.names.getD k default).name = z) with
      | true =>
        have bad := bad (by
          rw [ok]
          have : ((List.range j).all fun k => decide (¬ (r.names.getD k default).name = z)) = false := by
            rw [Bool.eq_false_iff]; intro h2
            have := List.all_eq_true.1 h2 k (List.mem_range.2 hk2)
            simp only [decide_eq_true_eq] at this e3
            exact this e3
          rw [this, Bool.and_false])
        clear step hki ok
        generalize r.names.getD k default = m at hgk e3
        obtain ⟨mz, mc⟩ := m
        simp only at e3
        simp only [D0, SP0, seval, -Int.reduceNatCast', hk', hgk, eNm, astr_eql, e3, decide_true, Int.natCast_nonneg, Int.toNat_natCast]
        refine .inr ⟨by simp, .inr ⟨by simp, ?_⟩⟩
        simp only [F1, SF0, SP0, seval, -Int.reduceNatCast', fn1239_res, fn1239_keep, bad]
      | false =>
        have hki : ∀ i, i < k + 1 → ¬ (r.names.getD i default).name = z := fun i h2 => by
          by_cases e : i = k
          · rw [e]; exact of_decide_eq_false e3
          · exact hki i (by omega)
        clear step bad ok
        generalize r.names.getD k default = m at hgk e3
        obtain ⟨mz, mc⟩ := m
        simp only at e3
        simp only [D0, SP0, seval, -Int.reduceNatCast', hk', hpk, hgk, eNm, astr_eql, e3, decide_true, Int.natCast_nonneg, Int.toNat_natCast]
        simp only [F1, SF0, SP0, seval, -Int.reduceNatCast']
        exact ⟨hk2, hk2, hki⟩
    · have hk' : ¬ (k : Int) < (j : Int) := by omega
      have hkj : k = j := by omega
      subst hkj
      have step := step (by
        rw [ok, e1, e2]
        have : ((List.range k).all fun i => decide (¬ (r.names.getD i default).name = z)) = true := by
          rw [List.all_eq_true]; intro i h2
          exact decide_eq_true (hki i (List.mem_range.1 h2))
        rw [this]; simp [hc0])
      clear bad ok hki
      simp only [D0, SP0, seval, -Int.reduceNatCast', hk', hp, decide_false]
      exact .inr ⟨by simp, .inl ⟨h, rfl, h, step⟩⟩
  · have h' : ¬ (j : Int) < (r.names.length : Int) := by omega
    have hnb : namesB r.names = true := List.all_eq_true.2 fun i h2 => hi i (by have := List.mem_range.1 h2; omega)
    simp only [D0, SP0, seval, -Int.reduceNatCast', h', decide_false]
    refine .inr ⟨by simp, ?_⟩
    refine lg_rule (fun q e H => e = [(0, (AV.agg [(AV.list 2 (List.map eNm (Rs.names r))), (AV.list 3 (List.map eRl (Rs.list r))), AV.bool (Rs.els r)])), (1, .ref [0] 1 0 0), (2, .bool false), (3, .int .i64 j), (6, .int .i64 q)] ∧ H = [[([0], .box [(AV.list 2 (List.map eNm (r.names))), (AV.list 3 (List.map eRl (r.list))), .bool r.els])]] ∧ q ≤ r.list.length ∧ ∀ i, i < q → (treeAny r.names (r.list.getD i default).before && treeAny r.names (r.list.getD i default).after) = true) r.list.length ?_ ?_
    · exact ⟨rfl, rfl, by simp, by simp⟩
    rintro q e H ⟨rfl, rfl, hq, hqi⟩
    by_cases hq2 : q < r.list.length
    · have hq' : (q : Int) < (r.list.length : Int) := by omega
      have hpq := wrapp (j := q) (by omega)
      have hgq := map_get (f := eRl) hq2 default
      have hm : r.list.getD q default ∈ r.list := by rw [List.getD_eq_getElem?_getD, List.getElem?_eq_getElem hq2]; exact List.getElem_mem hq2
      obtain ⟨wb, wa⟩ := hd.wf.list.2 _ hm
      have bad : (treeAny r.names (r.list.getD q default).before && treeAny r.names (r.list.getD q default).after) = false → goodRef r = false := fun h1 => by
        have : (r.list.all fun x => treeAny r.names x.before && treeAny r.names x.after) = false := by
          rw [Bool.eq_false_iff]; intro h2
          have := List.all_eq_true.1 h2 _ hm
          rw [h1] at this; cases this
        simp [goodRef, this]
      have step : (treeAny r.names (r.list.getD q default).before && treeAny r.names (r.list.getD q default).after) = true → ∀ i, i < q + 1 → (treeAny r.names (r.list.getD i default).before && treeAny r.names (r.list.getD i default).after) = true := fun h1 i h2 => by
        by_cases e : i = q
        · rw [e]; exact h1
        · exact hqi i (by omega)
      generalize r.list.getD q default = x at hgq bad step wb wa hm
      obtain ⟨b, a, c⟩ := x
      simp only at wb wa bad step
      have db : NamedD b r.names := ⟨wb, wn⟩
      have da : NamedD a r.names := ⟨wa, wn⟩
      clear hqi hm
      cases e1 : treeAny r.names b with
      | false =>
        have bad := bad (by rw [e1]; rfl)
        simp only [D0, SP0, seval, -Int.reduceNatCast', @use_all n10 54 k1257.ora rfl, e1257, db, hq', hgq, eRl, e1, decide_true, Int.natCast_nonneg, Int.toNat_natCast]
        refine .inr ⟨by simp, ?_⟩
        simp only [F1, SF0, SP0, seval, -Int.reduceNatCast', fn1239_res, fn1239_keep, bad]
      | true =>
        cases e2 : treeAny r.names a with
        | false =>
          have bad := bad (by rw [e1, e2]; rfl)
          simp only [D0, SP0, seval, -Int.reduceNatCast', @use_all n10 54 k1257.ora rfl, e1257, db, da, hq', hgq, eRl, e1, e2, decide_true, Int.natCast_nonneg, Int.toNat_natCast]
          refine .inr ⟨by simp, ?_⟩
          simp only [F1, SF0, SP0, seval, -Int.reduceNatCast', fn1239_res, fn1239_keep, bad]
        | true =>
          have step := step (by rw [e1, e2]; rfl)
          simp only [D0, SP0, seval, -Int.reduceNatCast', @use_all n10 54 k1257.ora rfl, e1257, db, da, hq', hpq, hgq, eRl, e1, e2, decide_true, Int.natCast_nonneg, Int.toNat_natCast]
          simp only [F1, SF0, SP0, seval, -Int.reduceNatCast']
          exact ⟨hq2, hq2, step⟩
    · have hq' : ¬ (q : Int) < (r.list.length : Int) := by omega
      have hall : (r.list.all fun x => treeAny r.names x.before && treeAny r.names x.after) = true := by
        rw [List.all_eq_true]
        intro x hx
        obtain ⟨i, hi2, rfl⟩ := List.getElem_of_mem hx
        have := hqi i (by omega)
        rw [List.getD_eq_getElem?_getD, List.getElem?_eq_getElem hi2] at this
        exact this
      have hr : goodRef r = decide ((r.list.length : Int) ≤ 40) := by
        unfold goodRef
        rw [hnb, hall]
        by_cases h4 : r.list.length ≤ 40
        · simp [h4]; omega
        · simp [h4]; omega
      simp only [D0, SP0, seval, -Int.reduceNatCast', hq', decide_false]
      refine .inr ⟨by simp, ?_⟩
      simp only [F1, SF0, SP0, seval, -Int.reduceNatCast', fn1239_res, fn1239_keep, hr]
noncomputable def k1239 : Kon (Rs) := ⟨fun x => GoodD x, fun x => [(AV.agg [(AV.list 2 (List.map eNm (Rs.names x))), (AV.list 3 (List.map eRl (Rs.list x))), AV.bool (Rs.els x)])], fun x => .bool (goodRef x)⟩
theorem e1239 (r : Rs) (hd : GoodD r) (q0 : Id) (H0 : Heap) : k1239.ora q0 ([(AV.agg [(AV.list 2 (List.map eNm (Rs.names r))), (AV.list 3 (List.map eRl (Rs.list r))), AV.bool (Rs.els r)])]) H0 = some (.bool (goodRef r), H0) := k1239.eq (fun _ _ h => rulesInj h) (r) hd q0 H0
theorem ook1239 : OraOK Tryz.prog (22 % 100000) k1239.ora := k1239.ok orders n10_ok (fun x hd => by simp [k1239, PU]) (fun x hd => by simp [k1239, PU]) (fun x hd => run1239 x hd)

noncomputable def n11 : FT := upd (n10) 22 k1239.ora
theorem n11_ok : FTOK Tryz.prog n11 := upd_ok2 (f := 22) (n10_ok) ook1239

end Go.Proofs.Abs

set_option maxRecDepth 100000
set_option maxHeartbeats 16000000
namespace Go.Proofs.Abs
open Go
theorem any_known {names : List Nm} (h : namesB names = true) (n : Nd) : names.any (nmHit n) = decide (knownN names n.name = some n.set) := by
  rw [Bool.eq_iff_iff, List.any_eq_true, decide_eq_true_eq, known_iff h]
  constructor
  · rintro ⟨m, hm, hh⟩
    obtain ⟨i, hi, rfl⟩ := List.getElem_of_mem hm
    simp only [nmHit, Bool.and_eq_true, decide_eq_true_eq] at hh
    refine ⟨i, hi, ?_, ?_⟩ <;> rw [List.getD_eq_getElem?_getD, List.getElem?_eq_getElem hi]
    · exact hh.1
    · exact hh.2
  · rintro ⟨i, hi, e1, e2⟩
    rw [List.getD_eq_getElem?_getD, List.getElem?_eq_getElem hi] at e1 e2
    exact ⟨names[i], List.getElem_mem hi, by simp only [nmHit, Bool.and_eq_true, decide_eq_true_eq]; exact ⟨e1, e2⟩⟩
theorem treeAny_eq {names : List Nm} (h : namesB names = true) (t : List Nd) : treeAny names t = treeNm names t := by
  unfold treeAny treeNm
  congr 2
  funext n
  unfold ndAny ndNm
  rw [any_known h]
theorem goodRef_eq (r : Rs) : goodRef r = goodR r := by
  unfold goodRef goodR
  cases h : namesB r.names with
  | false => simp
  | true =>
    congr 2
    congr 1
    funext x
    rw [treeAny_eq h, treeAny_eq h]
end Go.Proofs.Abs

set_option maxRecDepth 100000
set_option maxHeartbeats 16000000
namespace Go.Proofs.Abs
open Go
def IdxN (p : Nd → Bool) (ts : List Nd) (m : Int) : Prop := (m = -1 ∧ ∀ x ∈ ts, p x = false) ∨ ∃ i : Nat, m = i ∧ i < ts.length ∧ p (ts.getD i default) = true
section
variable {ft : FT} {H : Heap} {t : List Nd} {c : Nat} {caps : List AV} {p : Nd → Bool}
theorem run1284 (h1 : ft 152 = some (.code fn1284)) (hl : t.length ≤ 1000000) (hc : c < 100000) (q : Id)
    (hcl : ∀ n ∈ t, ∀ q', q <+: q' → cwp ft c q' (.agg (eNd n) :: caps) ([] :: [] :: H) (fun r H2 => r = .bool (p n) ∧ H2 = [] :: [] :: H)) :
    cwp ft 152 q [(AV.list 5 (List.map eNd t)), .func c caps] H (fun r H2 => (∃ m : Int, r = .int .i64 m ∧ IdxN p t m) ∧ H2 = H) := by
  refine run_fn (fn := fn1284) h1 rfl ?_
  simp only [fn1284_body, c1284, D0, SP0, seval, -Int.reduceNatCast']
  refine lg_rule (fun j e G => e = [(0, (AV.list 5 (List.map eNd t))), (1, .func c caps), (4, .int .i64 0), (7, .int .i64 t.length), (8, .int .i64 j)] ∧ G = [] :: H ∧ j ≤ t.length ∧ ∀ i, i < j → p (t.getD i default) = false) t.length ?_ ?_
  · exact ⟨rfl, rfl, by simp, by simp⟩
  rintro j e G ⟨rfl, rfl, hj, hi⟩
  by_cases h : j < t.length
  · have h' : (j : Int) < (t.length : Int) := by omega
    have hp := wrapp (j := j) (by omega)
    have hg := map_get (f := eNd) h default
    have hm := getD_mem h
    have step : p (t.getD j default) = false → ∀ i, i < j + 1 → p (t.getD i default) = false := fun h1 i h2 => by
      by_cases e : i = j
      · rw [e]; exact h1
      · exact hi i (by omega)
    have yes : p (t.getD j default) = true → IdxN p t j := fun h1 => .inr ⟨j, rfl, h, h1⟩
    have hcl' := hcl _ hm
    clear hi hcl
    generalize t.getD j default = x at hg step yes hm hcl'
    obtain ⟨kd, na, nb, nc, z⟩ := x
    simp only [eNd, eSet] at hg hcl'
    simp only [D0, SP0, seval, -Int.reduceNatCast', h', hg, rf_func, hc, decide_true, Int.natCast_nonneg, Int.toNat_natCast, fz_nd5]
    refine cg_use (hcl' _ (by simp)) ?_
    rintro v H2 ⟨rfl, rfl⟩
    cases hpt : p ⟨kd, na, nb, nc, z⟩ with
    | true =>
      have hy := yes hpt
      simp only [D0, SP0, seval, -Int.reduceNatCast']
      simp only [F1, SF0, SP0, seval, -Int.reduceNatCast', fn1284_res, fn1284_keep]
      exact ⟨_, rfl, hy⟩
    | false =>
      have st := step hpt
      simp only [D0, SP0, seval, -Int.reduceNatCast', hp]
      simp only [F1, SF0, SP0, seval, -Int.reduceNatCast']
      exact ⟨h, h, st⟩
  · have h' : ¬ (j : Int) < (t.length : Int) := by omega
    have he : IdxN p t (-1) := .inl ⟨rfl, fun x hx => by
      obtain ⟨k, hk, rfl⟩ := List.getElem_of_mem hx
      have := hi k (by omega)
      rw [List.getD_eq_getElem?_getD, List.getElem?_eq_getElem hk] at this
      exact this⟩
    simp only [D0, SP0, seval, -Int.reduceNatCast', h', decide_false]
    refine .inr ⟨by simp, ?_⟩
    simp only [F1, SF0, SP0, seval, -Int.reduceNatCast', fn1284_res, fn1284_keep]
    exact ⟨_, rfl, he⟩
theorem run1281 (h1 : ft 152 = some (.code fn1284)) (h2 : ft 130 = some (.code fn1281)) (hl : t.length ≤ 1000000) (hc : c < 100000) (q : Id)
    (hcl : ∀ n ∈ t, ∀ q', q <+: q' → cwp ft c q' (.agg (eNd n) :: caps) ([] :: [] :: [] :: H) (fun r H2 => r = .bool (p n) ∧ H2 = [] :: [] :: [] :: H)) :
    cwp ft 130 q [(AV.list 5 (List.map eNd t)), .func c caps] H (fun r H2 => r = .bool (t.any p) ∧ H2 = H) := by
  refine run_fn (fn := fn1281) h2 rfl ?_
  simp only [fn1281_body, c1281, D0, SP0, seval, -Int.reduceNatCast']
  refine cg_use (run1284 (p := p) h1 hl hc _ fun n hn q' hq => hcl n hn q' (List.IsPrefix.trans (by simp) hq)) ?_
  rintro v H2 ⟨⟨m, rfl, hm⟩, rfl⟩
  rcases hm with ⟨rfl, hall⟩ | ⟨i, rfl, hi, hpi⟩
  · have hneg : ¬ (-1 : Int) ≥ 0 := by decide
    have hr : t.any p = false := by
      rw [List.any_eq_false]
      intro x hx
      simp [hall x hx]
    simp only [D0, SP0, seval, -Int.reduceNatCast', hneg, decide_false]
    simp only [F1, SF0, SP0, seval, -Int.reduceNatCast', fn1281_res, fn1281_keep, hr]
  · have hpos : (i : Int) ≥ 0 := by omega
    have hr : t.any p = true := List.any_eq_true.2 ⟨_, getD_mem hi, hpi⟩
    simp only [D0, SP0, seval, -Int.reduceNatCast', hpos, decide_true]
    simp only [F1, SF0, SP0, seval, -Int.reduceNatCast', fn1281_res, fn1281_keep, hr]
end
def eMp (names : List Nm) : List (AV × AV) := names.map fun m => (AV.str m.name, (AV.list 2 (List.map (fun x => [AV.int .i64 x.1, AV.int .i64 x.2]) (m.set))))
theorem ba_beq (a b : ByteArray) : (a == b) = decide (a = b) := by
  obtain ⟨x⟩ := a
  obtain ⟨y⟩ := b
  have h1 : ((⟨x⟩ : ByteArray) == ⟨y⟩) = (x == y) := rfl
  rw [h1]
  by_cases h : x = y
  · simp [h]
  · simp [h]
theorem mfind_nms (z : ByteArray) : ∀ names : List Nm, mfind 2 [] (eMp names) (.str z) = some ((knownN names z).map fun s => (AV.list 2 (List.map (fun x => [AV.int .i64 x.1, AV.int .i64 x.2]) (s))))
  | [] => by simp [eMp, mfind, keyEq, knownN]
  | m :: r => by
    have ih := mfind_nms z r
    simp only [eMp, List.map_cons, mfind, keyEq, knownN, List.find?_cons] at ih ⊢
    by_cases h : m.name = z
    · simp [h, ba_beq]
    · have h' : ¬ z = m.name := fun e => h e.symm
      simp [h, h', ih, ba_beq]
theorem mput_nms (m : Nm) : ∀ names : List Nm, knownN names m.name = none → mput 2 [] (eMp names) (.str m.name) (AV.list 2 (List.map (fun x => [AV.int .i64 x.1, AV.int .i64 x.2]) (m.set))) = some (eMp (names ++ [m]))
  | [], _ => by simp [eMp, mput, keyEq, ba_beq]
  | n :: r, h => by
    simp only [knownN, List.find?_cons] at h
    by_cases e : n.name = m.name
    · simp [e] at h
    · have e' : ¬ m.name = n.name := fun x => e x.symm
      have ih := mput_nms m r (by simpa [knownN, e] using h)
      simp only [eMp, List.map_cons, List.cons_append, mput, keyEq] at ih ⊢
      simp [e', ih, ba_beq]
theorem astr_neq0 (z : ByteArray) : astr .neq z ⟨#[]⟩ = some (.bool (!decide (z.size = 0))) := by
  rw [astr_neq]
  have : (z = ⟨#[]⟩) = (z.size = 0) := by
    apply propext
    constructor
    · rintro rfl; rfl
    · intro h
      obtain ⟨d⟩ := z
      have : d = #[] := Array.eq_empty_of_size_eq_zero h
      rw [this]
  simp only [this]
theorem run1282 (n : Nd) (names : List Nm) (bid mid : Id) (G : Heap) (hb : hget G bid = some (.box [.map mid])) (hm : hget G mid = some (.map (eMp names))) (q : Id) (hqb : ¬ q ++ [0] = bid) (hqm : ¬ q ++ [0] = mid)
    (hn : n.set.length ≤ 9223372036854775807) (hns : ∀ m ∈ names, m.set.length ≤ 9223372036854775807) :
    cwp n11 131 q [.agg (eNd n), .ref bid 1 0 0] G (fun r H2 => r = .bool (!ndNm names n) ∧ H2 = G) := by
  refine run_fn (fn := fn1282) rfl rfl ?_
  have hf := mfind_nms n.name names
  have hr : (!ndNm names n) = (!decide (n.name.size = 0) && !decide (knownN names n.name = some n.set)) := by simp [ndNm]
  rw [hr]
  obtain ⟨kd, na, nb, c, z⟩ := n
  simp only at hf hn
  cases ek : knownN names z with
  | none =>
    rw [ek] at hf
    simp only [Option.map_none] at hf
    cases e1 : decide (z.size = 0) with
    | true =>
      simp only [fn1282_body, c1282, D0, SP0, seval, -Int.reduceNatCast', eNd, eSet, hqb, hqm, hb, hm, hf, astr_neq0, e1]
      simp only [F1, SF0, SP0, seval, -Int.reduceNatCast', fn1282_res, fn1282_keep, e1]
    | false =>
      simp only [fn1282_body, c1282, D0, SP0, seval, -Int.reduceNatCast', eNd, eSet, hqb, hqm, hb, hm, hf, astr_neq0, e1]
      simp only [F1, SF0, SP0, seval, -Int.reduceNatCast', fn1282_res, fn1282_keep, e1]
  | some y =>
    rw [ek] at hf
    simp only [Option.map_some] at hf
    have hy : y.length ≤ 9223372036854775807 := by
      unfold knownN at ek
      rw [Option.map_eq_some_iff] at ek
      obtain ⟨m, e1, e2⟩ := ek
      rw [← e2]
      exact hns m (List.mem_of_find?_eq_some e1)
    have hd2 : decide (some y = some c) = decide (y = c) := by simp
    cases e1 : decide (z.size = 0) with
    | true =>
      simp only [fn1282_body, c1282, D0, SP0, seval, -Int.reduceNatCast', eNd, eSet, hqb, hqm, hb, hm, hf, astr_neq0, e1]
      simp only [F1, SF0, SP0, seval, -Int.reduceNatCast', fn1282_res, fn1282_keep, e1, Bool.false_and]
    | false =>
      simp only [fn1282_body, c1282, D0, SP0, seval, -Int.reduceNatCast', @use_all n11 103 k62.ora rfl, e62, hy, eNd, eSet, hqb, hqm, hb, hm, hf, astr_neq0, e1]
      simp only [F1, SF0, SP0, seval, -Int.reduceNatCast', fn1282_res, fn1282_keep, e1, hd2]
theorem run1272 (t : List Nd) (names : List Nm) (mid : Id) (G : Heap) (hm : hget G mid = some (.map (eMp names))) (q : Id) (hq : ¬ q <+: mid)
    (wt : WfT t) (ht : t.length ≤ 1000000) (hn : ∀ n ∈ t, n.set.length ≤ 9223372036854775807) (hns : ∀ m ∈ names, m.set.length ≤ 9223372036854775807) :
    cwp n11 93 q [(AV.list 5 (List.map eNd t)), .map mid] G (fun r H2 => r = .bool (treeNm names t) ∧ H2 = G) := by
  refine run_fn (fn := fn1272) rfl rfl ?_
  cases g : goodT t with
  | false =>
    have hr : treeNm names t = false := by simp [treeNm, g]
    simp only [fn1272_body, c1272, D0, SP0, seval, -Int.reduceNatCast', @use_all n11 48 k30.ora rfl, e30, @use_all n11 55 k29.ora rfl, e29, wt, g]
    simp only [F1, SF0, SP0, seval, -Int.reduceNatCast', fn1272_res, fn1272_keep, hr]
  | true =>
    simp only [fn1272_body, c1272, D0, SP0, seval, -Int.reduceNatCast', @use_all n11 48 k30.ora rfl, e30, @use_all n11 55 k29.ora rfl, e29, wt, g]
    have hne : ¬ q ++ [0] = mid := fun e => hq (by rw [← e]; simp)
    refine cg_use (run1281 (p := fun n => !ndNm names n) rfl rfl ht (by decide) (q ++ [7]) fun n hnm q' hq' => ?_) ?_
    · have hlen := hq'.length_le
      refine run1282 n names (q ++ [0]) mid _ (by simp [hget, fget]) (by simpa [hget, fget, hne] using hm) q' (fun e => ?_) (fun e => ?_) (hn n hnm) hns
      · have := congrArg List.length e
        simp at this hlen
        omega
      · exact hq (by rw [← e]; exact ((List.prefix_append q [7]).trans hq').trans (List.prefix_append q' [0]))
    rintro v H2 ⟨rfl, rfl⟩
    have hr : treeNm names t = !(t.any fun n => !ndNm names n) := by
      simp only [treeNm, g, Bool.true_and, List.all_eq_not_any_not]
    rw [hr]
    cases e : (t.any fun n => !ndNm names n) <;>
    · simp only [D0, SP0, seval, -Int.reduceNatCast']
      simp only [F1, SF0, SP0, seval, -Int.reduceNatCast', fn1272_res, fn1272_keep]
end Go.Proofs.Abs

set_option maxRecDepth 100000
set_option maxHeartbeats 16000000
namespace Go.Proofs.Abs
open Go
theorem known_take {names : List Nm} {j : Nat} (h : j < names.length) : ((List.range j).all fun k => decide (¬ (names.getD k default).name = (names.getD j default).name)) = (knownN (names.take j) (names.getD j default).name).isNone := by
  rw [Bool.eq_iff_iff, List.all_eq_true]
  unfold knownN
  simp only [Option.isNone_iff_eq_none, Option.map_eq_none_iff, List.find?_eq_none, decide_eq_true_eq]
  constructor
  · intro h1 x hx
    obtain ⟨i, hi, rfl⟩ := List.getElem_of_mem hx
    have hi2 : i < j := by simp at hi; omega
    have := h1 i (List.mem_range.2 hi2)
    rw [List.getD_eq_getElem?_getD, List.getElem?_eq_getElem (by omega)] at this
    rw [List.getElem_take]
    exact this
  · intro h1 k hk
    have hk2 := List.mem_range.1 hk
    refine h1 _ ?_
    rw [List.getD_eq_getElem?_getD, List.getElem?_eq_getElem (by omega)]
    exact List.mem_take_iff_getElem.2 ⟨k, by omega, rfl⟩
structure WGoodD (r : Rs) : Prop where
  wf : WfR r
  own : OwnD r
theorem run1259 (r : Rs) (hw : WGoodD r) : cwp n11 62 [] [(AV.agg [(AV.list 2 (List.map eNm (Rs.names r))), (AV.list 3 (List.map eRl (Rs.list r))), AV.bool (Rs.els r)])] [] (fun v H => v = .bool (goodR r) ∧ H = []) := by
  refine run_fn (fn := fn1259) rfl rfl ?_
  have hd : GoodD r := ⟨hw.wf, hw.own.names, hw.own.len⟩
  have wn := hd.names
  have hnl := wn.len
  have hll := hd.len
  simp only [fn1259_body, c1259, D0, SP0, seval, -Int.reduceNatCast']
  refine lg_rule (fun j e H => e = [(0, (AV.agg [(AV.list 2 (List.map eNm (Rs.names r))), (AV.list 3 (List.map eRl (Rs.list r))), AV.bool (Rs.els r)])), (1, .ref [0] 1 0 0), (2, .bool false), (3, .map [2]), (12, (AV.list 2 (List.map eNm (r.names)))), (13, .int .i64 r.names.length), (14, .int .i64 j)] ∧ H = [[([2], .map (eMp (r.names.take j))), ([0], .box [(AV.list 2 (List.map eNm (r.names))), (AV.list 3 (List.map eRl (r.list))), .bool r.els])]] ∧ j ≤ r.names.length ∧ ∀ i, i < j → nmOK r.names i = true) r.names.length ?_ ?_
  · exact ⟨rfl, rfl, by simp, by simp⟩
  rintro j e H ⟨rfl, rfl, hj, hi⟩
  by_cases h : j < r.names.length
  · have h' : (j : Int) < (r.names.length : Int) := by omega
    have hp := wrapp (j := j) (by omega)
    have hg := map_get (f := eNm) h default
    have hm : r.names.getD j default ∈ r.names := by rw [List.getD_eq_getElem?_getD, List.getElem?_eq_getElem h]; exact List.getElem_mem h
    have wm := hd.wf.names.2 _ hm
    have bad : nmOK r.names j = false → goodR r = false := fun h1 => by
      have : namesB r.names = false := by
        rw [Bool.eq_false_iff]; intro h2
        have := List.all_eq_true.1 h2 j (List.mem_range.2 h)
        rw [h1] at this; cases this
      simp [goodR, this]
    have step : nmOK r.names j = true → ∀ i, i < j + 1 → nmOK r.names i = true := fun h1 i h2 => by
      by_cases e : i = j
      · rw [e]; exact h1
      · exact hi i (by omega)
    have ok : nmOK r.names j = (isNameB (r.names.getD j default).name && decide (0 < (r.names.getD j default).set.length) && goodS (r.names.getD j default).set && (knownN (r.names.take j) (r.names.getD j default).name).isNone) := by
      rw [← known_take h]; rfl
    have hsn := take_snocN h
    generalize r.names.getD j default = n at hg hm wm ok hsn
    have hmp := mput_nms n (r.names.take j)
    rw [hsn] at hmp
    have hf := mfind_nms n.name (r.names.take j)
    obtain ⟨z, c⟩ := n
    obtain ⟨wz, wc⟩ := wm
    simp only at wz wc ok hf hmp
    have wcl := wc.len
    clear hi
    cases ek : knownN (r.names.take j) z with
    | some y =>
      rw [ek] at hf ok
      simp only [Option.map_some] at hf
      have bad := bad (by rw [ok]; simp)
      simp only [D0, SP0, seval, -Int.reduceNatCast', h', hg, eNm, hf, decide_true, Int.natCast_nonneg, Int.toNat_natCast]
      refine .inr ⟨by simp, ?_⟩
      simp only [F1, SF0, SP0, seval, -Int.reduceNatCast', fn1259_res, fn1259_keep, bad]
    | none =>
    rw [ek] at hf ok
    have hmp := hmp ek
    simp only [Option.map_none] at hf
    cases e1 : isNameB z with
    | false =>
      have bad := bad (by rw [ok, e1]; rfl)
      simp only [D0, SP0, seval, -Int.reduceNatCast', @use_all n11 92 k1271.ora rfl, e1271, wz, h', hg, eNm, hf, e1, decide_true, Int.natCast_nonneg, Int.toNat_natCast]
      refine .inr ⟨by simp, ?_⟩
      simp only [F1, SF0, SP0, seval, -Int.reduceNatCast', fn1259_res, fn1259_keep, bad]
    | true =>
    by_cases hc : c = []
    · subst hc
      have bad := bad (by rw [ok]; simp)
      have h00 : (((0 : Nat) : Int) == 0) = true := rfl
      simp only [D0, SP0, seval, -Int.reduceNatCast', @use_all n11 92 k1271.ora rfl, e1271, wz, h', hg, eNm, hf, e1, h00, decide_true, Int.natCast_nonneg, Int.toNat_natCast]
      refine .inr ⟨by simp, ?_⟩
      simp only [F1, SF0, SP0, seval, -Int.reduceNatCast', fn1259_res, fn1259_keep, bad]
    have hc0 : 0 < c.length := List.length_pos_iff.2 hc
    have hc' : ((c.length : Int) == 0) = false := by simp; omega
    cases e2 : goodS c with
    | false =>
      have bad := bad (by rw [ok, e2]; simp)
      simp only [D0, SP0, seval, -Int.reduceNatCast', @use_all n11 92 k1271.ora rfl, e1271, @use_all n11 57 k56.ora rfl, e56, wz, wcl, h', hg, eNm, hf, e1, e2, hc', decide_true, Int.natCast_nonneg, Int.toNat_natCast]
      refine .inr ⟨by simp, ?_⟩
      simp only [F1, SF0, SP0, seval, -Int.reduceNatCast', fn1259_res, fn1259_keep, bad]
    | true =>
    have step := step (by rw [ok, e1, e2]; simp [hc0])
    simp only [D0, SP0, seval, -Int.reduceNatCast', @use_all n11 92 k1271.ora rfl, e1271, @use_all n11 57 k56.ora rfl, e56, wz, wcl, h', hp, hg, eNm, hf, hmp, e1, e2, hc', decide_true, Int.natCast_nonneg, Int.toNat_natCast]
    simp only [F1, SF0, SP0, seval, -Int.reduceNatCast']
    exact ⟨h, h, step⟩
  · have h' : ¬ (j : Int) < (r.names.length : Int) := by omega
    have hjl : j = r.names.length := by omega
    subst hjl
    rw [List.take_length]
    have hnb : namesB r.names = true := List.all_eq_true.2 fun i h2 => hi i (List.mem_range.1 h2)
    simp only [D0, SP0, seval, -Int.reduceNatCast', h', decide_false]
    refine .inr ⟨by simp, ?_⟩
    refine lg_rule (fun q e H => e = [(0, (AV.agg [(AV.list 2 (List.map eNm (Rs.names r))), (AV.list 3 (List.map eRl (Rs.list r))), AV.bool (Rs.els r)])), (1, .ref [0] 1 0 0), (2, .bool false), (3, .map [2]), (12, (AV.list 2 (List.map eNm (r.names)))), (13, .int .i64 r.names.length), (14, .int .i64 r.names.length), (51, (AV.list 3 (List.map eRl (r.list)))), (52, .int .i64 r.list.length), (53, .int .i64 q)] ∧ H = [[([2], .map (eMp r.names)), ([0], .box [(AV.list 2 (List.map eNm (r.names))), (AV.list 3 (List.map eRl (r.list))), .bool r.els])]] ∧ q ≤ r.list.length ∧ ∀ i, i < q → (treeNm r.names (r.list.getD i default).before && treeNm r.names (r.list.getD i default).after) = true) r.list.length ?_ ?_
    · exact ⟨rfl, rfl, by simp, by simp⟩
    rintro q e H ⟨rfl, rfl, hq, hqi⟩
    by_cases hq2 : q < r.list.length
    · have hq' : (q : Int) < (r.list.length : Int) := by omega
      have hpq := wrapp (j := q) (by omega)
      have hgq := map_get (f := eRl) hq2 default
      have hm : r.list.getD q default ∈ r.list := by rw [List.getD_eq_getElem?_getD, List.getElem?_eq_getElem hq2]; exact List.getElem_mem hq2
      obtain ⟨wb, wa⟩ := hd.wf.list.2 _ hm
      obtain ⟨tb, ta⟩ := hw.own.all _ hm
      have hns : ∀ m ∈ r.names, m.set.length ≤ 9223372036854775807 := fun m h => by have := wn.all m h; omega
      have bad : (treeNm r.names (r.list.getD q default).before && treeNm r.names (r.list.getD q default).after) = false → goodR r = false := fun h1 => by
        have : (r.list.all fun x => treeNm r.names x.before && treeNm r.names x.after) = false := by
          rw [Bool.eq_false_iff]; intro h2
          have := List.all_eq_true.1 h2 _ hm
          rw [h1] at this; cases this
        simp [goodR, this]
      have step : (treeNm r.names (r.list.getD q default).before && treeNm r.names (r.list.getD q default).after) = true → ∀ i, i < q + 1 → (treeNm r.names (r.list.getD i default).before && treeNm r.names (r.list.getD i default).after) = true := fun h1 i h2 => by
        by_cases e : i = q
        · rw [e]; exact h1
        · exact hqi i (by omega)
      generalize r.list.getD q default = x at hgq bad step wb wa tb ta hm
      obtain ⟨b, a, c⟩ := x
      simp only at wb wa bad step tb ta
      clear hqi hm
      simp only [D0, SP0, seval, -Int.reduceNatCast', hq', hgq, eRl, decide_true, Int.natCast_nonneg, Int.toNat_natCast]
      refine cg_use (run1272 b r.names [2] _ (by simp [hget, fget]) _ (by simp) wb tb.len (fun n h => by have := tb.all n h; omega) hns) ?_
      rintro v H2 ⟨rfl, rfl⟩
      cases e1 : treeNm r.names b with
      | false =>
        have bad := bad (by rw [e1]; rfl)
        simp only [D0, SP0, seval, -Int.reduceNatCast']
        refine .inr ⟨by simp, ?_⟩
        simp only [F1, SF0, SP0, seval, -Int.reduceNatCast', fn1259_res, fn1259_keep, bad]
      | true =>
        simp only [D0, SP0, seval, -Int.reduceNatCast']
        refine cg_use (run1272 a r.names [2] _ (by simp [hget, fget]) _ (by simp) wa ta.len (fun n h => by have := ta.all n h; omega) hns) ?_
        rintro v H2 ⟨rfl, rfl⟩
        cases e2 : treeNm r.names a with
        | false =>
          have bad := bad (by rw [e1, e2]; rfl)
          simp only [D0, SP0, seval, -Int.reduceNatCast']
          refine .inr ⟨by simp, ?_⟩
          simp only [F1, SF0, SP0, seval, -Int.reduceNatCast', fn1259_res, fn1259_keep, bad]
        | true =>
          have step := step (by rw [e1, e2]; rfl)
          simp only [D0, SP0, seval, -Int.reduceNatCast', hpq]
          simp only [F1, SF0, SP0, seval, -Int.reduceNatCast']
          exact ⟨hq2, hq2, step⟩
    · have hq' : ¬ (q : Int) < (r.list.length : Int) := by omega
      have hall : (r.list.all fun x => treeNm r.names x.before && treeNm r.names x.after) = true := by
        rw [List.all_eq_true]
        intro x hx
        obtain ⟨i, hi2, rfl⟩ := List.getElem_of_mem hx
        have := hqi i (by omega)
        rw [List.getD_eq_getElem?_getD, List.getElem?_eq_getElem hi2] at this
        exact this
      have hr : goodR r = decide ((r.list.length : Int) ≤ 40) := by
        unfold goodR
        rw [hnb, hall]
        by_cases h4 : r.list.length ≤ 40
        · simp [h4]; omega
        · simp [h4]; omega
      simp only [D0, SP0, seval, -Int.reduceNatCast', hq', decide_false]
      refine .inr ⟨by simp, ?_⟩
      simp only [F1, SF0, SP0, seval, -Int.reduceNatCast', fn1259_res, fn1259_keep, hr]
noncomputable def k1259 : Kon (Rs) := ⟨fun x => WGoodD x, fun x => [(AV.agg [(AV.list 2 (List.map eNm (Rs.names x))), (AV.list 3 (List.map eRl (Rs.list x))), AV.bool (Rs.els x)])], fun x => .bool (goodR x)⟩
theorem e1259 (r : Rs) (hd : WGoodD r) (q0 : Id) (H0 : Heap) : k1259.ora q0 ([(AV.agg [(AV.list 2 (List.map eNm (Rs.names r))), (AV.list 3 (List.map eRl (Rs.list r))), AV.bool (Rs.els r)])]) H0 = some (.bool (goodR r), H0) := k1259.eq (fun _ _ h => rulesInj h) (r) hd q0 H0
theorem ook1259 : OraOK Tryz.prog (62 % 100000) k1259.ora := k1259.ok orders n11_ok (fun x hd => by simp [k1259, PU]) (fun x hd => by simp [k1259, PU]) (fun x hd => run1259 x hd)

noncomputable def n12 : FT := upd (n11) 62 k1259.ora
theorem n12_ok : FTOK Tryz.prog n12 := upd_ok2 (f := 62) (n11_ok) ook1259

end Go.Proofs.Abs

set_option maxRecDepth 100000
set_option maxHeartbeats 16000000
namespace Go.Proofs.Abs
open Go
structure RowD (l : List Int) : Prop where
  len : l.length ≤ 1000000
theorem run1236 (x : Rl) (l : List Int) (i : Int) (wb : WfT x.before) (wa : WfT x.after) (hl : RowD l) : cwp n12 19 [] [.agg (eRl x), (AV.list 1 (List.map (fun x => [AV.int .i64 x]) (l))), .int .i64 i] [] (fun v H => v = .bool (tellsB x l i) ∧ H = []) := by
  refine run_fn (fn := fn1236) rfl rfl ?_
  have hll := hl.len
  obtain ⟨b, a, c⟩ := x
  simp only at wb wa
  by_cases h0 : i < 0
  · have hr : tellsB ⟨b, a, c⟩ l i = false := by
      have : ¬ 0 ≤ i := by omega
      simp [tellsB, this]
    simp only [fn1236_body, c1236, D0, SP0, seval, -Int.reduceNatCast', eRl, h0, decide_true]
    simp only [F1, SF0, SP0, seval, -Int.reduceNatCast', fn1236_res, fn1236_keep, hr]
  by_cases h1 : i > (l.length : Int)
  · have hr : tellsB ⟨b, a, c⟩ l i = false := by
      have : ¬ i ≤ (l.length : Int) := by omega
      simp [tellsB, this]
    simp only [fn1236_body, c1236, D0, SP0, seval, -Int.reduceNatCast', eRl, h0, h1, decide_true, decide_false]
    simp only [F1, SF0, SP0, seval, -Int.reduceNatCast', fn1236_res, fn1236_keep, hr]
  obtain ⟨n, rfl⟩ : ∃ n : Nat, i = n := ⟨i.toNat, by omega⟩
  have hn : n ≤ l.length := by omega
  have hp1 := wrapp (j := n) (by omega)
  simp only [fn1236_body, c1236, D0, SP0, seval, -Int.reduceNatCast', eRl, h0, h1, hp1, decide_false]
  have hT : tellsB ⟨b, a, c⟩ l n = (List.range (n + 1)).any fun k => takesT b (l.take k) && takesT a ((l.take n).drop k) := by
    have e1 : decide ((0 : Int) ≤ (n : Int)) = true := by rw [decide_eq_true_eq]; omega
    have e2 : decide ((n : Int) ≤ (l.length : Int)) = true := by rw [decide_eq_true_eq]; omega
    unfold tellsB
    rw [e1, e2, Int.toNat_natCast]; rfl
  refine lg_rule (fun k e H => e = [(0, .agg [(AV.list 5 (List.map eNd b)), (AV.list 5 (List.map eNd a)), .bool c]), (1, (AV.list 1 (List.map (fun x => [AV.int .i64 x]) (l)))), (2, .int .i64 n), (3, .ref [0] 1 0 0), (6, .bool false), (17, .int .i64 (n + 1 : Nat)), (18, .int .i64 k)] ∧ H = [[([0], .box [(AV.list 5 (List.map eNd b)), (AV.list 5 (List.map eNd a)), .bool c])]] ∧ k ≤ n + 1 ∧ ∀ j, j < k → (takesT b (l.take j) && takesT a ((l.take n).drop j)) = false) (n + 1) ?_ ?_
  · exact ⟨rfl, rfl, by simp, by simp⟩
  rintro k e H ⟨rfl, rfl, hk, hki⟩
  by_cases h : k < n + 1
  · have h' : (k : Int) < ((n + 1 : Nat) : Int) := by omega
    have hp := wrapp (j := k) (by omega)
    have step : (takesT b (l.take k) && takesT a ((l.take n).drop k)) = false → ∀ j, j < k + 1 → (takesT b (l.take j) && takesT a ((l.take n).drop j)) = false := fun e j hj => by
      by_cases hjk : j = k
      · rw [hjk]; exact e
      · exact hki j (by omega)
    have yes : (takesT b (l.take k) && takesT a ((l.take n).drop k)) = true → tellsB ⟨b, a, c⟩ l n = true := fun e => by
      rw [hT]; exact List.any_eq_true.2 ⟨k, List.mem_range.2 h, e⟩
    have db : WfT b ∧ (l.take k).length ≤ 1000000 := ⟨wb, by simp; omega⟩
    have da : WfT a ∧ ((l.take n).drop k).length ≤ 1000000 := ⟨wa, by simp; omega⟩
    have m1 : List.take k (List.map (fun x : Int => [AV.int .i64 x]) l) = List.map (fun x => [AV.int .i64 x]) (l.take k) := List.map_take.symm
    have m2 : List.drop k (List.take n (List.map (fun x : Int => [AV.int .i64 x]) l)) = List.map (fun x => [AV.int .i64 x]) ((l.take n).drop k) := by rw [← List.map_take, ← List.map_drop]
    have b1 : k ≤ l.length := by omega
    have b2 : k ≤ n := by omega
    have b3 : (k : Int) ≤ (l.length : Int) := by omega
    have b4 : (k : Int) ≤ (n : Int) := by omega
    have b5 : (n : Int) ≤ (l.length : Int) := by omega
    have eb := fun q H => e31 b (l.take k) db q H
    have ea := fun q H => e31 a ((l.take n).drop k) da q H
    clear hki
    cases e1 : takesT b (l.take k) with
    | false =>
      have step := step (by rw [e1]; rfl)
      simp only [D0, SP0, seval, -Int.reduceNatCast', @use_all n12 24 k31.ora rfl, eb, m1, b1, b3, h', hp, e1, lrc_y, lrc_n, apx, apart, apart1, needs, Nat.le_refl, Nat.zero_le, and_self, Nat.sub_zero, List.drop_zero, decide_true, Int.natCast_nonneg, Int.toNat_natCast]
      simp only [F1, SF0, SP0, seval, -Int.reduceNatCast']
      exact ⟨h, by omega, step⟩
    | true =>
      cases e2 : takesT a ((l.take n).drop k) with
      | false =>
        have step := step (by rw [e1, e2]; rfl)
        simp only [D0, SP0, seval, -Int.reduceNatCast', @use_all n12 24 k31.ora rfl, eb, ea, m1, m2, b1, b2, b3, b4, b5, hn, h', hp, e1, e2, lrc_y, lrc_n, apx, apart, apart1, needs, Nat.le_refl, Nat.zero_le, and_self, Nat.sub_zero, List.drop_zero, decide_true, Int.natCast_nonneg, Int.toNat_natCast]
        simp only [F1, SF0, SP0, seval, -Int.reduceNatCast']
        exact ⟨h, step⟩
      | true =>
        have yes := yes (by rw [e1, e2]; rfl)
        simp only [D0, SP0, seval, -Int.reduceNatCast', @use_all n12 24 k31.ora rfl, eb, ea, m1, m2, b1, b2, b3, b4, b5, hn, h', hp, e1, e2, lrc_y, lrc_n, apx, apart, apart1, needs, Nat.le_refl, Nat.zero_le, and_self, Nat.sub_zero, List.drop_zero, decide_true, Int.natCast_nonneg, Int.toNat_natCast]
        refine .inr ⟨by simp, ?_⟩
        simp only [F1, SF0, SP0, seval, -Int.reduceNatCast', fn1236_res, fn1236_keep, yes]
  · have h' : ¬ (k : Int) < ((n + 1 : Nat) : Int) := by omega
    have hr : tellsB ⟨b, a, c⟩ l n = false := by
      rw [hT, List.any_eq_false]
      intro j hj
      rw [hki j (by have := List.mem_range.1 hj; omega)]
      simp
    simp only [D0, SP0, seval, -Int.reduceNatCast', h', decide_false]
    refine .inr ⟨by simp, ?_⟩
    simp only [F1, SF0, SP0, seval, -Int.reduceNatCast', fn1236_res, fn1236_keep, hr]
theorem pure_rl (w : Rl) : Pure (.agg [(AV.list 5 (List.map eNd w.before)), (AV.list 5 (List.map eNd w.after)), .bool w.brk]) = True := eq_true (.agg _ fun j av e => pure_eRl w av (List.mem_of_getElem? e))
attribute [simp] pure_rl
theorem rlRowIntInj : ∀ x y : Rl × List Int × Int, [.agg [(AV.list 5 (List.map eNd x.1.before)), (AV.list 5 (List.map eNd x.1.after)), .bool x.1.brk], (AV.list 1 (List.map (fun x => [AV.int .i64 x]) (x.2.1))), .int .i64 x.2.2] = [.agg [(AV.list 5 (List.map eNd y.1.before)), (AV.list 5 (List.map eNd y.1.after)), .bool y.1.brk], (AV.list 1 (List.map (fun x => [AV.int .i64 x]) (y.2.1))), .int .i64 y.2.2] → x = y := by
  rintro ⟨a, l, i⟩ ⟨b, m, j⟩ h
  simp only [List.cons.injEq, AV.int.injEq, AV.agg.injEq, and_true, true_and] at h
  have h1 : eRl a = eRl b := by unfold eRl; rw [h.1.1, h.1.2.1, h.1.2.2]
  rw [eRl_inj h1, eRow_inj (a := l) (b := m) h.2.1, h.2.2]
noncomputable def k1236 : Kon (Rl × List Int × Int) := ⟨fun x => WfL x.1 ∧ RowD x.2.1, fun x => [.agg [(AV.list 5 (List.map eNd x.1.before)), (AV.list 5 (List.map eNd x.1.after)), .bool x.1.brk], (AV.list 1 (List.map (fun x => [AV.int .i64 x]) (x.2.1))), .int .i64 x.2.2], fun x => .bool (tellsB x.1 x.2.1 x.2.2)⟩
theorem e1236 (w : Rl) (l : List Int) (i : Int) (hd : WfL w ∧ RowD l) (q0 : Id) (H0 : Heap) : k1236.ora q0 ([.agg [(AV.list 5 (List.map eNd w.before)), (AV.list 5 (List.map eNd w.after)), .bool w.brk], (AV.list 1 (List.map (fun x => [AV.int .i64 x]) (l))), .int .i64 i]) H0 = some (.bool (tellsB w l i), H0) := k1236.eq (rlRowIntInj) (w, l, i) hd q0 H0
theorem ook1236 : OraOK Tryz.prog (19 % 100000) k1236.ora := k1236.ok orders n12_ok (fun x hd => by simp [k1236, PU]) (fun x hd => by simp [k1236, PU]) (fun x hd => run1236 x.1 x.2.1 x.2.2 hd.1.before hd.1.after hd.2)

noncomputable def n13 : FT := upd (n12) 19 k1236.ora
theorem n13_ok : FTOK Tryz.prog n13 := upd_ok2 (f := 19) (n12_ok) ook1236

end Go.Proofs.Abs

set_option maxRecDepth 100000
set_option maxHeartbeats 16000000
namespace Go.Proofs.Abs
open Go
theorem run1266 (v : Int) : cwp n13 79 [] [.int .i64 v] [] (fun r H => r = .bool (!isS v) ∧ H = []) := by
  refine run_fn (fn := fn1266) rfl rfl ?_
  simp only [fn1266_body, c1266, D0, SP0, seval, -Int.reduceNatCast', @use_all n13 80 k97.ora rfl, e97]
  simp only [F1, SF0, SP0, seval, -Int.reduceNatCast', fn1266_res, fn1266_keep]
noncomputable def k1266 : Kon (Int) := ⟨fun _ => True, fun x => [.int .i64 x], fun x => .bool (!isS x)⟩
theorem e1266 (v : Int) (q0 : Id) (H0 : Heap) : k1266.ora q0 ([.int .i64 v]) H0 = some (.bool (!isS v), H0) := k1266.eq (intInj) (v) trivial q0 H0
theorem ook1266 : OraOK Tryz.prog (79 % 100000) k1266.ora := k1266.ok orders n13_ok (fun x hd => by simp [k1266, PU]) (fun x hd => by simp [k1266, PU]) (fun x hd => run1266 x)

noncomputable def n14 : FT := upd (n13) 79 k1266.ora
theorem n14_ok : FTOK Tryz.prog n14 := upd_ok2 (f := 79) (n13_ok) ook1266

def idxS (l : List Int) (n : Nat) : Int := match l with
  | [] => -1
  | v :: r => if isS v = true then idxS r (n + 1) else (n : Int)
theorem idxS_any : ∀ (l : List Int) (n : Nat), decide (idxS l n ≥ 0) = l.any fun v => !isS v
  | [], n => by simp [idxS]
  | v :: r, n => by
    unfold idxS
    cases h : isS v with
    | true => rw [if_pos rfl, idxS_any r (n + 1)]; simp [h]
    | false => simp [h]
theorem run1117 (l : List Int) (hl : RowD l) : cwp n14 122 [] [(AV.list 1 (List.map (fun x => [AV.int .i64 x]) (l))), .func 79 []] [] (fun v H => v = .int .i64 (idxS l 0) ∧ H = []) := by
  refine run_fn (fn := fn1117) rfl rfl ?_
  have hll := hl.len
  simp only [fn1117_body, c1117, D0, SP0, seval, -Int.reduceNatCast']
  refine lg_rule (fun j e H => e = [(0, (AV.list 1 (List.map (fun x => [AV.int .i64 x]) (l)))), (1, .func 79 []), (4, .int .i64 0), (7, .int .i64 l.length), (8, .int .i64 j)] ∧ H = [[]] ∧ j ≤ l.length ∧ idxS (l.drop j) j = idxS l 0) l.length ?_ ?_
  · exact ⟨rfl, rfl, by simp, rfl⟩
  rintro j e H ⟨rfl, rfl, hj, hi⟩
  by_cases h : j < l.length
  · have h' : (j : Int) < (l.length : Int) := by omega
    have hp := wrapp (j := j) (by omega)
    have hg := map_get (f := fun x : Int => [AV.int .i64 x]) h 0
    have hd : l.drop j = l.getD j 0 :: l.drop (j + 1) := by
      rw [List.drop_eq_getElem_cons h, List.getD_eq_getElem?_getD, List.getElem?_eq_getElem h]; rfl
    rw [hd, idxS] at hi
    generalize l.getD j 0 = v at hg hi
    cases e : isS v with
    | true =>
      rw [e, if_pos rfl] at hi
      simp only [D0, SP0, seval, -Int.reduceNatCast', @use_all n14 79 k1266.ora rfl, e1266, h', hg, hp, e, rf_func, Nat.reduceLT, decide_true, Int.natCast_nonneg, Int.toNat_natCast]
      simp only [F1, SF0, SP0, seval, -Int.reduceNatCast']
      exact ⟨h, h, hi⟩
    | false =>
      rw [e, if_neg (by simp)] at hi
      simp only [D0, SP0, seval, -Int.reduceNatCast', @use_all n14 79 k1266.ora rfl, e1266, h', hg, hp, e, rf_func, Nat.reduceLT, decide_true, Int.natCast_nonneg, Int.toNat_natCast]
      refine .inr ⟨by simp, ?_⟩
      simp only [F1, SF0, SP0, seval, -Int.reduceNatCast', fn1117_res, fn1117_keep, hi]
  · have h' : ¬ (j : Int) < (l.length : Int) := by omega
    have hz : l.drop j = [] := List.drop_eq_nil_of_le (by omega)
    rw [hz, idxS] at hi
    simp only [D0, SP0, seval, -Int.reduceNatCast', h', decide_false]
    refine .inr ⟨by simp, ?_⟩
    simp only [F1, SF0, SP0, seval, -Int.reduceNatCast', fn1117_res, fn1117_keep, hi]
theorem rowFInj {f : Nat} {a b : List Int} (h : [(AV.list 1 (List.map (fun x => [AV.int .i64 x]) (a))), AV.func f []] = [(AV.list 1 (List.map (fun x => [AV.int .i64 x]) (b))), AV.func f []]) : a = b := by
  simp only [List.cons.injEq, and_true] at h
  exact eRow_inj (a := a) (b := b) h
noncomputable def k1117 : Kon (List Int) := ⟨fun x => RowD x, fun x => [(AV.list 1 (List.map (fun x => [AV.int .i64 x]) (x))), .func 79 []], fun x => .int .i64 (idxS x 0)⟩
theorem e1117 (l : List Int) (hd : RowD l) (q0 : Id) (H0 : Heap) : k1117.ora q0 ([(AV.list 1 (List.map (fun x => [AV.int .i64 x]) (l))), .func 79 []]) H0 = some (.int .i64 (idxS l 0), H0) := k1117.eq (fun _ _ h => rowFInj h) (l) hd q0 H0
theorem ook1117 : OraOK Tryz.prog (122 % 100000) k1117.ora := k1117.ok orders n14_ok (fun x hd => by simp [k1117, PU]) (fun x hd => by simp [k1117, PU]) (fun x hd => run1117 x hd)

noncomputable def n15 : FT := upd (n14) 122 k1117.ora
theorem n15_ok : FTOK Tryz.prog n15 := upd_ok2 (f := 122) (n14_ok) ook1117

theorem run1100 (l : List Int) (hl : RowD l) : cwp n15 78 [] [(AV.list 1 (List.map (fun x => [AV.int .i64 x]) (l))), .func 79 []] [] (fun v H => v = .bool (l.any fun v => !isS v) ∧ H = []) := by
  refine run_fn (fn := fn1100) rfl rfl ?_
  simp only [fn1100_body, c1100, D0, SP0, seval, -Int.reduceNatCast', @use_all n15 122 k1117.ora rfl, e1117, hl]
  simp only [F1, SF0, SP0, seval, -Int.reduceNatCast', fn1100_res, fn1100_keep]
  rw [idxS_any]
noncomputable def k1100 : Kon (List Int) := ⟨fun x => RowD x, fun x => [(AV.list 1 (List.map (fun x => [AV.int .i64 x]) (x))), .func 79 []], fun x => .bool (x.any fun v => !isS v)⟩
theorem e1100 (l : List Int) (hd : RowD l) (q0 : Id) (H0 : Heap) : k1100.ora q0 ([(AV.list 1 (List.map (fun x => [AV.int .i64 x]) (l))), .func 79 []]) H0 = some (.bool (l.any fun v => !isS v), H0) := k1100.eq (fun _ _ h => rowFInj h) (l) hd q0 H0
theorem ook1100 : OraOK Tryz.prog (78 % 100000) k1100.ora := k1100.ok orders n15_ok (fun x hd => by simp [k1100, PU]) (fun x hd => by simp [k1100, PU]) (fun x hd => run1100 x hd)

noncomputable def n16 : FT := upd (n15) 78 k1100.ora
theorem n16_ok : FTOK Tryz.prog n16 := upd_ok2 (f := 78) (n15_ok) ook1100

end Go.Proofs.Abs

set_option maxRecDepth 100000
set_option maxHeartbeats 16000000
namespace Go.Proofs.Abs
open Go
def kAsk (p : Int × Int) : AV := .agg [.int .i64 p.1, .int .i64 p.2]
def vAsk (T : Int → Int → Bool) (p : Int × Int) : AV := .int .i64 (if T p.1 p.2 then 1 else 0)
def eAsk (T : Int → Int → Bool) (L : List (Int × Int)) : List (AV × AV) := L.map fun p => (kAsk p, vAsk T p)
theorem keyEq_ask (p q : Int × Int) : keyEq 3 [0, 0] (kAsk p) (kAsk q) = some (decide (p = q)) := by
  obtain ⟨a, b⟩ := p
  obtain ⟨c, d⟩ := q
  by_cases h1 : a = c
  · by_cases h2 : b = d
    · simp [keyEq, kAsk, acells, abin, aint, h1, h2]
    · simp [keyEq, kAsk, acells, abin, aint, h1, h2]
  · simp [keyEq, kAsk, acells, abin, aint, h1]
theorem mfind_ask (T : Int → Int → Bool) (p : Int × Int) : ∀ L, mfind 3 [0, 0] (eAsk T L) (kAsk p) = some (if p ∈ L then some (vAsk T p) else none)
  | [] => by simp [eAsk, mfind, keyEq_ask]
  | q :: r => by
    have ih := mfind_ask T p r
    simp only [eAsk, List.map_cons, mfind, keyEq_ask] at ih ⊢
    by_cases h : p = q
    · simp [h]
    · simp [h, ih]
theorem mput_ask (T : Int → Int → Bool) (p : Int × Int) : ∀ L, ¬ p ∈ L → mput 3 [0, 0] (eAsk T L) (kAsk p) (vAsk T p) = some (eAsk T (L ++ [p]))
  | [], _ => by simp [eAsk, mput, keyEq_ask]
  | q :: r, h => by
    have h1 : ¬ p = q := fun e => h (by simp [e])
    have ih := mput_ask T p r (fun e => h (List.mem_cons_of_mem _ e))
    simp only [eAsk, List.map_cons, List.cons_append, mput, keyEq_ask] at ih ⊢
    simp [h1, ih]
theorem hset_self' {H : Heap} {id : Id} {o : AObj} (h : hget H id = some o) : hset H id o = H := by
  have fs : ∀ (f : Fr), fget f id = some o → fset f id o = f := by
    intro f
    induction f with
    | nil => intro _; rfl
    | cons p f ih =>
      obtain ⟨i, o'⟩ := p
      intro h
      by_cases hi : i = id
      · simp only [fget, hi, if_true, Option.some.injEq] at h
        simp [fset, hi, h]
      · simp only [fget, hi, if_false] at h
        simp [fset, hi, ih h]
  induction H with
  | nil => rfl
  | cons f r ih =>
    cases e : fget f id with
    | none =>
      simp only [hget, e] at h
      simp [hset, e, ih h]
    | some o' =>
      simp only [hget, e, Option.some.injEq] at h
      subst h
      simp [hset, e, fs f e]
def askT (r : Rs) (l : List Int) : Int → Int → Bool := fun k i => tellsB (r.list.getD k.toNat default) l i
theorem run1267 (r : Rs) (l : List Int) (L : List (Int × Int)) (aid mid : Id) (G : Heap) (k : Nat) (i : Int) (q : Id)
    (ha : hget G aid = some (.box [(AV.list 2 (List.map eNm (r.names))), (AV.list 3 (List.map eRl (r.list))), .bool r.els, (AV.list 1 (List.map (fun x => [AV.int .i64 x]) (l))), .map mid])) (hm : hget G mid = some (.map (eAsk (askT r l) L)))
    (hqa : ¬ q <+: aid) (hqm : ¬ q <+: mid) (hk : k < r.list.length) (wl : WfL (r.list.getD k default)) (hl : RowD l) :
    cwp n16 81 q [.ref aid 1 0 0, .int .i64 (k : Int), .int .i64 i] G (fun v H2 => v = .bool (askT r l k i) ∧ ∃ L', H2 = hset G mid (.map (eAsk (askT r l) L'))) := by
  refine run_fn (fn := fn1267) rfl rfl ?_
  have n1 : ¬ q ++ [4] = aid := fun e => hqa (by rw [← e]; simp)
  have n2 : ¬ q ++ [4] = mid := fun e => hqm (by rw [← e]; simp)
  have n3 : ¬ aid = q ++ [4] := fun e => n1 e.symm
  have n4 : ¬ mid = q ++ [4] := fun e => n2 e.symm
  have hf := mfind_ask (askT r l) ((k : Int), i) L
  have hka : kAsk ((k : Int), i) = .agg [.int .i64 (k : Int), .int .i64 i] := rfl
  rw [hka] at hf
  by_cases hL : ((k : Int), i) ∈ L
  · rw [if_pos hL] at hf
    have hself : hset G mid (.map (eAsk (askT r l) L)) = G := hset_self' hm
    cases e : askT r l k i with
    | true =>
      have hv : vAsk (askT r l) ((k : Int), i) = .int .i64 1 := by simp [vAsk, e]
      rw [hv] at hf
      simp only [fn1267_body, c1267, D0, SP0, seval, -Int.reduceNatCast', ha, hm, hf, n1, n2, lrc_y, lrc_n, apx, apart, apart1, needs]
      simp only [F1, SF0, SP0, seval, -Int.reduceNatCast', fn1267_res, fn1267_keep]
      exact ⟨L, hself.symm⟩
    | false =>
      have hv : vAsk (askT r l) ((k : Int), i) = .int .i64 0 := by simp [vAsk, e]
      rw [hv] at hf
      simp only [fn1267_body, c1267, D0, SP0, seval, -Int.reduceNatCast', ha, hm, hf, n1, n2, lrc_y, lrc_n, apx, apart, apart1, needs]
      simp only [F1, SF0, SP0, seval, -Int.reduceNatCast', fn1267_res, fn1267_keep]
      exact ⟨L, hself.symm⟩
  · rw [if_neg hL] at hf
    have hp := mput_ask (askT r l) ((k : Int), i) L hL
    rw [hka] at hp
    have hg := map_get (f := eRl) hk default
    have et := fun q H => e1236 (r.list.getD k default) l i ⟨wl, hl⟩ q H
    have ea : askT r l k i = tellsB (r.list.getD k default) l i := rfl
    generalize r.list.getD k default = w at hg et ea wl
    cases e : askT r l k i with
    | true =>
      have hv : vAsk (askT r l) ((k : Int), i) = .int .i64 1 := by simp [vAsk, e]
      rw [hv] at hp
      rw [e] at ea
      simp only [fn1267_body, c1267, D0, SP0, seval, -Int.reduceNatCast', @use_all n16 19 k1236.ora rfl, et, ← ea, fz_rules, eRl, hg, ha, hm, hf, hp, n1, n2, lrc_y, lrc_n, apx, apart, apart1, needs, Int.natCast_nonneg, Int.toNat_natCast]

      simp only [F1, SF0, SP0, seval, -Int.reduceNatCast', fn1267_res, fn1267_keep]
      exact ⟨_, rfl⟩
    | false =>
      have hv : vAsk (askT r l) ((k : Int), i) = .int .i64 0 := by simp [vAsk, e]
      rw [hv] at hp
      rw [e] at ea
      simp only [fn1267_body, c1267, D0, SP0, seval, -Int.reduceNatCast', @use_all n16 19 k1236.ora rfl, et, ← ea, fz_rules, eRl, hg, ha, hm, hf, hp, n1, n2, lrc_y, lrc_n, apx, apart, apart1, needs, Int.natCast_nonneg, Int.toNat_natCast]
      simp only [F1, SF0, SP0, seval, -Int.reduceNatCast', fn1267_res, fn1267_keep]
      exact ⟨_, rfl⟩
end Go.Proofs.Abs

set_option maxRecDepth 100000
set_option maxHeartbeats 16000000
namespace Go.Proofs.Abs
open Go
theorem run1254 (r : Rs) (l : List Int) (L : List (Int × Int)) (aid mid : Id) (G : Heap) (i : Nat) (q : Id)
    (ha : hget G aid = some (.box [(AV.list 2 (List.map eNm (r.names))), (AV.list 3 (List.map eRl (r.list))), .bool r.els, (AV.list 1 (List.map (fun x => [AV.int .i64 x]) (l))), .map mid])) (hm : hget G mid = some (.map (eAsk (askT r l) L)))
    (hne : ¬ mid = aid) (hqa : ¬ q <+: aid) (hqm : ¬ q <+: mid) (wl : ∀ x ∈ r.list, WfL x) (hll : r.list.length ≤ 1000000) (hl : RowD l) :
    cwp n16 47 q [.ref aid 1 0 0, .int .i64 (i : Int)] G (fun v H2 => v = .bool (breakB r l i) ∧ ∃ L', H2 = hset G mid (.map (eAsk (askT r l) L'))) := by
  refine run_fn (fn := fn1254) rfl rfl ?_
  simp only [fn1254_body, c1254, D0, SP0, seval, -Int.reduceNatCast', ha]
  have hmx : ∀ o, hget (hset G mid o) mid = some o := fun o => by rw [hget_hset]; simp [hm]
  have hax : ∀ o, hget (hset G mid o) aid = some (.box [(AV.list 2 (List.map eNm (r.names))), (AV.list 3 (List.map eRl (r.list))), .bool r.els, (AV.list 1 (List.map (fun x => [AV.int .i64 x]) (l))), .map mid]) := fun o => by
    rw [hget_hset, if_neg (fun h => hne h.1)]; exact ha
  refine lg_rule (fun j e H => ∃ L', e = [(0, .ref aid 1 0 0), (1, .int .i64 (i : Int)), (4, .bool false), (11, (AV.list 3 (List.map eRl (r.list)))), (12, .int .i64 r.list.length), (13, .int .i64 j)] ∧ H = [] :: hset G mid (.map (eAsk (askT r l) L')) ∧ j ≤ r.list.length ∧ breakFrom r l i j = breakB r l i) r.list.length ?_ ?_
  · exact ⟨L, rfl, by rw [hset_self' hm], by simp, rfl⟩
  rintro j e H ⟨L', rfl, rfl, hj, hb⟩
  by_cases h : j < r.list.length
  · have h' : (j : Int) < (r.list.length : Int) := by omega
    have hp := wrapp (j := j) (by omega)
    have hg := map_get (f := eRl) h default
    have hw := wl (r.list.getD j default) (by rw [List.getD_eq_getElem?_getD, List.getElem?_eq_getElem h]; exact List.getElem_mem h)
    have hbs := breakFrom_step (r := r) (l := l) (i := i) h
    simp only [D0, SP0, seval, -Int.reduceNatCast', hg, eRl, h', decide_true, Int.natCast_nonneg, Int.toNat_natCast]
    have n1 : ¬ q ++ [8] ++ [j] ++ [4] = aid := fun e => hqa (by rw [← e]; simp [List.append_assoc])
    have n2 : ¬ q ++ [8] ++ [j] ++ [4] = mid := fun e => hqm (by rw [← e]; simp [List.append_assoc])
    have hpre : q <+: q ++ [8] ++ [j] ++ [10] := by simp [List.append_assoc]
    refine cg_use (run1267 r l L' aid mid _ j i _ (by simp only [hget, fget, n1, if_false]; exact hax _) (by simp only [hget, fget, n2, if_false]; exact hmx _) (fun e => hqa (hpre.trans e)) (fun e => hqm (hpre.trans e)) h hw hl) ?_
    rintro v H2 ⟨rfl, L2, rfl⟩
    have hh : ∀ o x y, hset ([(q ++ [8] ++ [j] ++ [4], o)] :: [] :: hset G mid x) mid y = [(q ++ [8] ++ [j] ++ [4], o)] :: [] :: hset G mid y := fun o x y => by
      simp only [hset, fget, n2, if_false, hset_hset]
    have hat : askT r l j i = tellsB (r.list.getD j default) l i := rfl
    rw [← hat] at hbs
    cases e : askT r l j i with
    | true =>
      rw [e, if_pos rfl, hb] at hbs
      simp only [hh, D0, SP0, seval, -Int.reduceNatCast']
      refine .inr ⟨by simp, ?_⟩
      simp only [F1, SF0, SP0, seval, -Int.reduceNatCast', fn1254_res, fn1254_keep, hbs]
      exact ⟨_, rfl⟩
    | false =>
      rw [e, if_neg (by simp), hb] at hbs
      simp only [hh, D0, SP0, seval, -Int.reduceNatCast', hp]
      simp only [F1, SF0, SP0, seval, -Int.reduceNatCast']
      exact ⟨h, L2, rfl, h, hbs.symm⟩
  · have h' : ¬ (j : Int) < (r.list.length : Int) := by omega
    have hjl : j = r.list.length := by omega
    subst hjl
    rw [breakFrom_end] at hb
    simp only [D0, SP0, seval, -Int.reduceNatCast', h', hax, decide_false]
    refine .inr ⟨by simp, ?_⟩
    simp only [F1, SF0, SP0, seval, -Int.reduceNatCast', fn1254_res, fn1254_keep, hb]
    exact ⟨_, rfl⟩
end Go.Proofs.Abs

set_option maxRecDepth 100000
set_option maxHeartbeats 16000000
namespace Go.Proofs.Abs
open Go
theorem run1253 (r : Rs) (l : List Int) (hw : WGoodD r) (hl : RowD l) (q : Id) (f : Fr) (G : Heap) : cwp n16 46 q [(AV.agg [(AV.list 2 (List.map eNm (Rs.names r))), (AV.list 3 (List.map eRl (Rs.list r))), AV.bool (Rs.els r)]), (AV.list 1 (List.map (fun x => [AV.int .i64 x]) (l)))] (f :: G) (fun v H2 => v = .tuple [.ref (q ++ [15]) 1 0 0, .bool (okR r l)] ∧ H2 = ((q ++ [15], .box [(AV.list 2 (List.map eNm (r.names))), (AV.list 3 (List.map eRl (r.list))), .bool r.els, (AV.list 1 (List.map (fun x => [AV.int .i64 x]) (l))), .map (q ++ [13])]) :: (q ++ [13], .map []) :: (q ++ [0], .box [(AV.list 2 (List.map eNm (r.names))), (AV.list 3 (List.map eRl (r.list))), .bool r.els]) :: f) :: G) := by
  refine run_fn (fn := fn1253) rfl rfl ?_
  cases e1 : goodR r with
  | false =>
    have hr : okR r l = false := by simp [okR, e1]
    simp only [fn1253_body, c1253, D0, SP0, seval, -Int.reduceNatCast', @use_all n16 62 k1259.ora rfl, e1259, hw, fz_rules, e1]
    simp only [F1, SF0, SP0, seval, -Int.reduceNatCast', fn1253_res, fn1253_keep, hr]
  | true =>
    cases e2 : (l.any fun v => !isS v) with
    | true =>
      have hr : okR r l = false := by
        simp only [okR, List.all_eq_not_any_not, e2]; simp
      simp only [fn1253_body, c1253, D0, SP0, seval, -Int.reduceNatCast', @use_all n16 62 k1259.ora rfl, e1259, @use_all n16 78 k1100.ora rfl, e1100, hw, hl, fz_rules, e1, e2]
      simp only [F1, SF0, SP0, seval, -Int.reduceNatCast', fn1253_res, fn1253_keep, hr]
    | false =>
      have hr : okR r l = true := by
        simp only [okR, List.all_eq_not_any_not, e1, e2]; simp
      simp only [fn1253_body, c1253, D0, SP0, seval, -Int.reduceNatCast', @use_all n16 62 k1259.ora rfl, e1259, @use_all n16 78 k1100.ora rfl, e1100, hw, hl, fz_rules, e1, e2]
      simp only [F1, SF0, SP0, seval, -Int.reduceNatCast', fn1253_res, fn1253_keep, hr]
end Go.Proofs.Abs

set_option maxRecDepth 100000
set_option maxHeartbeats 16000000
namespace Go.Proofs.Abs
open Go
def atOK (r : Rs) (l : List Int) (i : Int) : Bool := okR r l && decide (0 ≤ i) && decide (i ≤ l.length)
def atB (r : Rs) (l : List Int) (i : Int) : Bool := atOK r l i && breakB r l i.toNat
structure MeanD (r : Rs) (l : List Int) : Prop where
  r : WGoodD r
  l : RowD l
theorem run1234 (r : Rs) (l : List Int) (i : Int) (hd : MeanD r l) : cwp n16 16 [] [(AV.agg [(AV.list 2 (List.map eNm (Rs.names r))), (AV.list 3 (List.map eRl (Rs.list r))), AV.bool (Rs.els r)]), (AV.list 1 (List.map (fun x => [AV.int .i64 x]) (l))), .int .i64 i] [] (fun v H => v = .tuple [.bool (atB r l i), .bool (atOK r l i)] ∧ H = []) := by
  refine run_fn (fn := fn1234) rfl rfl ?_
  simp only [fn1234_body, c1234, D0, SP0, seval, -Int.reduceNatCast', fz_rules]
  refine cg_use (run1253 r l hd.r hd.l _ _ _) ?_
  rintro v H2 ⟨rfl, rfl⟩
  cases e : okR r l with
  | false =>
    have h1 : atOK r l i = false := by simp [atOK, e]
    have h2 : atB r l i = false := by simp [atB, h1]
    simp only [D0, SP0, seval, -Int.reduceNatCast']
    simp only [F1, SF0, SP0, seval, -Int.reduceNatCast', fn1234_res, fn1234_keep, h1, h2, fz, fzd, fzd.fzcells]
  | true =>
  by_cases h0 : i < 0
  · have h1 : atOK r l i = false := by
      have : ¬ 0 ≤ i := by omega
      simp [atOK, this]
    have h2 : atB r l i = false := by simp [atB, h1]
    simp only [D0, SP0, seval, -Int.reduceNatCast', h0, decide_true]
    simp only [F1, SF0, SP0, seval, -Int.reduceNatCast', fn1234_res, fn1234_keep, h1, h2, fz, fzd, fzd.fzcells]
  by_cases h3 : i > (l.length : Int)
  · have h1 : atOK r l i = false := by
      have : ¬ i ≤ (l.length : Int) := by omega
      simp [atOK, this]
    have h2 : atB r l i = false := by simp [atB, h1]
    simp only [D0, SP0, seval, -Int.reduceNatCast', h0, h3, decide_true, decide_false]
    simp only [F1, SF0, SP0, seval, -Int.reduceNatCast', fn1234_res, fn1234_keep, h1, h2, fz, fzd, fzd.fzcells]
  obtain ⟨n, rfl⟩ : ∃ n : Nat, i = n := ⟨i.toNat, by omega⟩
  have h1 : atOK r l n = true := by simp [atOK, e]; omega
  have h2 : atB r l n = breakB r l n := by simp [atB, h1]
  simp only [D0, SP0, seval, -Int.reduceNatCast', h0, h3, decide_false]
  refine cg_use (run1254 r l [] [5, 15] [5, 13] _ n _ (by simp [hget, fget]) (by simp [hget, fget, eAsk]) (by simp) (by simp) (by simp) hd.r.wf.list.2 hd.r.own.len hd.l) ?_
  rintro v H2 ⟨rfl, L, rfl⟩
  simp only [D0, SP0, seval, -Int.reduceNatCast', hset, fset, fget]
  simp only [F1, SF0, SP0, seval, -Int.reduceNatCast', fn1234_res, fn1234_keep, h1, h2, fz, fzd, fzd.fzcells]
theorem rulesRowIntInj : ∀ x y : Rs × List Int × Int, [(AV.agg [(AV.list 2 (List.map eNm (Rs.names x.1))), (AV.list 3 (List.map eRl (Rs.list x.1))), AV.bool (Rs.els x.1)]), (AV.list 1 (List.map (fun x => [AV.int .i64 x]) (x.2.1))), .int .i64 x.2.2] = [(AV.agg [(AV.list 2 (List.map eNm (Rs.names y.1))), (AV.list 3 (List.map eRl (Rs.list y.1))), AV.bool (Rs.els y.1)]), (AV.list 1 (List.map (fun x => [AV.int .i64 x]) (y.2.1))), .int .i64 y.2.2] → x = y := by
  rintro ⟨a, l, i⟩ ⟨b, m, j⟩ h
  simp only [List.cons.injEq, AV.int.injEq, and_true, true_and] at h
  rw [rules_inj h.1, eRow_inj (a := l) (b := m) h.2.1, h.2.2]
noncomputable def k1234 : Kon (Rs × List Int × Int) := ⟨fun x => MeanD x.1 x.2.1, fun x => [(AV.agg [(AV.list 2 (List.map eNm (Rs.names x.1))), (AV.list 3 (List.map eRl (Rs.list x.1))), AV.bool (Rs.els x.1)]), (AV.list 1 (List.map (fun x => [AV.int .i64 x]) (x.2.1))), .int .i64 x.2.2], fun x => .tuple [.bool (atB x.1 x.2.1 x.2.2), .bool (atOK x.1 x.2.1 x.2.2)]⟩
theorem e1234 (r : Rs) (l : List Int) (i : Int) (hd : MeanD r l) (q0 : Id) (H0 : Heap) : k1234.ora q0 ([(AV.agg [(AV.list 2 (List.map eNm (Rs.names r))), (AV.list 3 (List.map eRl (Rs.list r))), AV.bool (Rs.els r)]), (AV.list 1 (List.map (fun x => [AV.int .i64 x]) (l))), .int .i64 i]) H0 = some (.tuple [.bool (atB r l i), .bool (atOK r l i)], H0) := k1234.eq (rulesRowIntInj) (r, l, i) hd q0 H0
theorem ook1234 : OraOK Tryz.prog (16 % 100000) k1234.ora := k1234.ok orders n16_ok (fun x hd => by simp [k1234, PU]) (fun x hd => by simp [k1234, PU]) (fun x hd => run1234 x.1 x.2.1 x.2.2 hd)

noncomputable def n17 : FT := upd (n16) 16 k1234.ora
theorem n17_ok : FTOK Tryz.prog n17 := upd_ok2 (f := 16) (n16_ok) ook1234

end Go.Proofs.Abs

set_option maxRecDepth 100000
set_option maxHeartbeats 16000000
namespace Go.Proofs.Abs
open Go
def brkU (r : Rs) (l : List Int) (j : Nat) : List Int := ((List.range j).filter (breakB r l)).map fun (i : Nat) => (i : Int)
theorem brkU_step (r : Rs) (l : List Int) (j : Nat) : brkU r l (j + 1) = if breakB r l j = true then brkU r l j ++ [(j : Int)] else brkU r l j := by
  unfold brkU
  rw [List.range_succ, List.filter_append]
  cases h : breakB r l j <;> simp [h]
theorem brkU_len (r : Rs) (l : List Int) (j : Nat) : (brkU r l j).length ≤ j := by
  unfold brkU
  rw [List.length_map]
  have := List.length_filter_le (fun i : Nat => breakB r l i) (List.range j)
  rw [List.length_range] at this
  exact this
theorem run1232 (r : Rs) (l : List Int) (hd : MeanD r l) : cwp n16 14 [] [(AV.agg [(AV.list 2 (List.map eNm (Rs.names r))), (AV.list 3 (List.map eRl (Rs.list r))), AV.bool (Rs.els r)]), (AV.list 1 (List.map (fun x => [AV.int .i64 x]) (l)))] [] (fun v H => v = .tuple [(AV.list 1 (List.map (fun x => [AV.int .i64 x]) (if okR r l then breaksL r l else []))), .bool (okR r l)] ∧ H = []) := by
  refine run_fn (fn := fn1232) rfl rfl ?_
  have hll := hd.l.len
  have hp0 := wrapp (j := l.length) (by omega)
  simp only [fn1232_body, c1232, D0, SP0, seval, -Int.reduceNatCast', fz_rules]
  refine cg_use (run1253 r l hd.r hd.l _ _ _) ?_
  rintro v H2 ⟨rfl, rfl⟩
  cases e : okR r l with
  | false =>
    simp only [D0, SP0, seval, -Int.reduceNatCast']
    simp only [F1, SF0, SP0, seval, -Int.reduceNatCast', fn1232_res, fn1232_keep, fz, fzd, fzd.fzcells, Bool.false_eq_true, if_false, List.map_nil]
  | true =>
    simp only [D0, SP0, seval, -Int.reduceNatCast', hp0]
    refine lg_rule (fun j e H => ∃ L', e = [(0, (AV.agg [(AV.list 2 (List.map eNm (Rs.names r))), (AV.list 3 (List.map eRl (Rs.list r))), AV.bool (Rs.els r)])), (1, (AV.list 1 (List.map (fun x => [AV.int .i64 x]) (l)))), (2, .ref [0] 1 0 0), (4, .own [1] 0), (5, .bool false), (6, .ref [5, 15] 1 0 0), (7, .bool true), (8, .own [13] (brkU r l j).length), (20, .int .i64 (l.length + 1 : Nat)), (21, .int .i64 j)] ∧
      H = [[([13], .row true true 3 1 (List.map (fun x => [AV.int .i64 x]) (brkU r l j))), ([5, 15], .box [AV.list 2 (List.map eNm r.names), AV.list 3 (List.map eRl r.list), AV.bool r.els, (AV.list 1 (List.map (fun x => [AV.int .i64 x]) (l))), .map [5, 13]]), ([5, 13], .map (eAsk (askT r l) L')), ([5, 0], .box [AV.list 2 (List.map eNm r.names), AV.list 3 (List.map eRl r.list), AV.bool r.els]), ([1], .row true true 3 1 []), ([0], .box [AV.list 2 (List.map eNm r.names), AV.list 3 (List.map eRl r.list), AV.bool r.els])]] ∧ j ≤ l.length + 1) (l.length + 1) ?_ ?_
    · exact ⟨[], rfl, rfl, by omega⟩
    rintro j e H ⟨L', rfl, rfl, hj⟩
    by_cases h : j < l.length + 1
    · have h' : (j : Int) < ((l.length + 1 : Nat) : Int) := by omega
      have hp := wrapp (j := j) (by omega)
      have hst := brkU_step r l j
      have hbl := brkU_len r l j
      have hc : ((brkU r l j).length + 1) * 8 ≤ 140737488355328 := by omega
      simp only [D0, SP0, seval, -Int.reduceNatCast', h', decide_true]
      refine cg_use (run1254 r l L' [5, 15] [5, 13] _ j _ (by simp [hget, fget]) (by simp [hget, fget]) (by simp) (by simp) (by simp) hd.r.wf.list.2 hd.r.own.len hd.l) ?_
      rintro v H2 ⟨rfl, L2, rfl⟩
      cases e2 : breakB r l j with
      | true =>
        rw [e2, if_pos rfl] at hst
        rw [hst]
        generalize brkU r l j = B at hc
        simp only [D0, SP0, seval, -Int.reduceNatCast', hset, fset, fget, hp, hc, List.length_map]
        simp only [F1, SF0, SP0, seval, -Int.reduceNatCast']
        refine ⟨h, L2, ?_⟩
        simp
        omega
      | false =>
        rw [e2, if_neg (by simp)] at hst
        rw [hst]
        simp only [D0, SP0, seval, -Int.reduceNatCast', hset, fset, fget, hp]
        simp only [F1, SF0, SP0, seval, -Int.reduceNatCast']
        refine ⟨h, L2, ?_⟩
        simp
        omega
    · have h' : ¬ (j : Int) < ((l.length + 1 : Nat) : Int) := by omega
      have hjl : j = l.length + 1 := by omega
      subst hjl
      have hb : brkU r l (l.length + 1) = breaksL r l := rfl
      rw [hb]
      simp only [D0, SP0, seval, -Int.reduceNatCast', h', decide_false]
      refine .inr ⟨by simp, ?_⟩
      simp only [F1, SF0, SP0, seval, -Int.reduceNatCast', fn1232_res, fn1232_keep, fz, fzd, fzd.fzcells, List.length_map]
noncomputable def k1232 : Kon (Rs × List Int) := ⟨fun x => MeanD x.1 x.2, fun x => [(AV.agg [(AV.list 2 (List.map eNm (Rs.names x.1))), (AV.list 3 (List.map eRl (Rs.list x.1))), AV.bool (Rs.els x.1)]), (AV.list 1 (List.map (fun x => [AV.int .i64 x]) (x.2)))], fun x => .tuple [(AV.list 1 (List.map (fun x => [AV.int .i64 x]) (if okR x.1 x.2 then breaksL x.1 x.2 else []))), .bool (okR x.1 x.2)]⟩
theorem e1232 (r : Rs) (l : List Int) (hd : MeanD r l) (q0 : Id) (H0 : Heap) : k1232.ora q0 ([(AV.agg [(AV.list 2 (List.map eNm (Rs.names r))), (AV.list 3 (List.map eRl (Rs.list r))), AV.bool (Rs.els r)]), (AV.list 1 (List.map (fun x => [AV.int .i64 x]) (l)))]) H0 = some (.tuple [(AV.list 1 (List.map (fun x => [AV.int .i64 x]) (if okR r l then breaksL r l else []))), .bool (okR r l)], H0) := k1232.eq (fun _ _ h => rulesRowInj h) (r, l) hd q0 H0
theorem ook1232 : OraOK Tryz.prog (14 % 100000) k1232.ora := k1232.ok orders n16_ok (fun x hd => by simp [k1232, PU]) (fun x hd => by simp [k1232, PU]) (fun x hd => run1232 x.1 x.2 hd)

noncomputable def n18 : FT := upd (n17) 14 k1232.ora
theorem n18_ok : FTOK Tryz.prog n18 := upd_ok2 (f := 14) (n17_ok) ook1232

end Go.Proofs.Abs
