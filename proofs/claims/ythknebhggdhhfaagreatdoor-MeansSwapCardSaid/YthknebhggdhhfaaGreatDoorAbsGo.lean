/- A part of a proof: the text that states the row tells what is proved. No condition is laid on anything. -/
import Derived.Test.YthknebhggdhhfaaGreatDoorAbsGl
set_option linter.all false
set_option linter.constructorNameAsVariable false
set_option linter.defProp false
set_option linter.unusedVariables false
set_option linter.unusedSimpArgs false
set_option maxRecDepth 100000
set_option maxHeartbeats 16000000
namespace Go.Proofs.Abs
open Go
theorem one_ne : ((1 : Nat) = 0) = False := eq_false (by decide)
theorem zero_ne : ((0 : Nat) = 1) = False := eq_false (by decide)
theorem eight_ne : ((8 : Nat) = 0) = False := eq_false (by decide)
theorem ne_eight : ((0 : Nat) = 8) = False := eq_false (by decide)
def rowI (q : Id) : Id := q ++ [11, 0, 29]
theorem rowI_eq (q : Id) : q ++ [11] ++ [0] ++ [29] = rowI q := by simp [rowI, List.append_assoc]
theorem row_ne (q : Id) (c : Nat) : (rowI q = q ++ [c]) = False := eq_false (by simp [rowI])
theorem ne_row (q : Id) (c : Nat) : (q ++ [c] = rowI q) = False := eq_false (by simp [rowI])
theorem row_ne3 (q : Id) (j : Nat) : (rowI q = q ++ [11] ++ [j] ++ [28]) = False := eq_false (by simp [rowI, List.append_assoc])
theorem id3b (q : Id) (a b c : Nat) : (q ++ [11, a, b] = q ++ [c]) = False := eq_false (by simp)
theorem id3c (q : Id) (j : Nat) : (q ++ [11, j, 28] = rowI q) = False := eq_false (by simp [rowI])
def ownV (q : Id) (r : Rs) : AV := .agg [(AV.list 2 (List.map eNm (r.names))), (if r.list.length = 0 then .list 3 [] else .own (rowI q) r.list.length), .bool r.els]
theorem id3_ne (q : Id) (a b c : Nat) : (q ++ [11] ++ [a] ++ [b] = q ++ [c]) = False := eq_false (by simp [List.append_assoc])
theorem id3_row (q : Id) (j : Nat) : (q ++ [11] ++ [j] ++ [28] = rowI q) = False := eq_false (by simp [rowI, List.append_assoc])
theorem run301231 (r : Rs) (hd : OwnD r) (q : Id) (f : Fr) (hn : ∀ id, q <+: id → fget f id = none) : cwp o4 300013 q [(AV.agg [(AV.list 2 (List.map eNm (Rs.names r))), (AV.list 3 (List.map eRl (Rs.list r))), AV.bool (Rs.els r)])] [f] (fun v H => v = ownV q r ∧ ∃ F, H = [F ++ f] ∧ (0 < r.list.length → fget F (rowI q) = some (.row true true 42 3 (List.map eRl r.list))) ∧ ∀ id, ¬ q <+: id → fget F id = none) := by
  refine run_fn (fn := { fn1231 with keep := 2 }) rfl rfl ?_
  have wn := hd.names
  have pn := pb_nms r.names
  have i1 : ((q ++ [8] : Id) == q ++ [0]) = false := by simp
  have n8 : fget f (q ++ [8]) = none := hn _ (List.prefix_append _ _)
  have hn' : ∀ a b c, fget f (q ++ [a] ++ [b] ++ [c]) = none := fun a b c => hn _ (by rw [List.append_assoc, List.append_assoc]; exact List.prefix_append _ _)
  have hnr : fget f (rowI q) = none := hn _ (List.prefix_append _ _)
  simp only [fn1231_body, c1231, D0, SP0, seval, -Int.reduceNatCast', use_p (ft := o4) (f := 44) (spec := k1252.ora) rfl, e1252, wn, agetl, pureBs, pureB, pn, hins, fins, idk, List.getLast?_concat, Option.getD_some, Option.isNone_none, Nat.reduceLT, i1, n8, List.append_cancel_left_eq, List.cons.injEq, Nat.reduceEqDiff, one_ne, zero_ne, eight_ne, ne_eight, false_and, if_false, lrc_y, lrc_n, apx, apart, apart1, needs]
  refine lg_rule (fun j e H => j ≤ r.list.length ∧ ∃ F, e = [(0, (AV.agg [(AV.list 2 (List.map eNm (Rs.names r))), (AV.list 3 (List.map eRl (Rs.list r))), AV.bool (Rs.els r)])), (1, .ref (q ++ [0]) 1 0 0), (2, .ref (q ++ [1]) 1 0 0), (3, .ref (q ++ [8]) 1 0 0), (4, .int .i64 j)] ∧ H = [F, f] ∧
    fget F (q ++ [8]) = some (.box [(AV.list 2 (List.map eNm (r.names))), (if j = 0 then .nils else .own (rowI q) j), .bool r.els]) ∧ fget F (q ++ [1]) = some (.box [.nils, .nils, .bool false]) ∧
    fget F (q ++ [0]) = some (.box [(AV.list 2 (List.map eNm (r.names))), (AV.list 3 (List.map eRl (r.list))), .bool r.els]) ∧ (0 < j → fget F (rowI q) = some (.row true true 42 3 (List.map eRl (r.list.take j)))) ∧ ∀ id, ¬ q <+: id → fget F id = none) r.list.length ?_ ?_
  · refine ⟨by simp, _, rfl, rfl, ?_, ?_, ?_, by simp, fun id hid => ?_⟩
    · simp [fget]
    · simp [fget]
    · simp [fget]
    · have n : ∀ a, ¬ q ++ [a] = id := fun a e => hid (e ▸ List.prefix_append _ _)
      simp [fget, n]
  rintro j e H ⟨hj, F, rfl, rfl, h8, h1, h0, hR, hF⟩
  have hl := hd.len
  have d08 : ∀ o, fget (fset F (rowI q) o) (q ++ [8]) = fget F (q ++ [8]) := fun o => fget_fset_ne F o (by simp [rowI])
  by_cases h : j < r.list.length
  · have h' : (j : Int) < (r.list.length : Int) := by omega
    have hp := wrapp (j := j) (by omega)
    have hg := map_get (f := eRl) h default
    have hm : r.list.getD j default ∈ r.list := by rw [List.getD_eq_getElem?_getD, List.getElem?_eq_getElem h]; exact List.getElem_mem h
    obtain ⟨wb, wa⟩ := hd.all _ hm
    have hsn : List.map eRl (r.list.take j) ++ [eRl (r.list.getD j default)] = List.map eRl (r.list.take (j + 1)) := by
      rw [show r.list.take (j + 1) = r.list.take j ++ [r.list.getD j default] by
        rw [List.getD_eq_getElem?_getD, List.getElem?_eq_getElem h]; simp, List.map_append]; rfl
    generalize r.list.getD j default = x at hg hm wb wa hsn
    obtain ⟨b, a, c⟩ := x
    simp only at wb wa
    have tb : (∀ n ∈ b, n.set.length ≤ 600) ∧ b.length ≤ 1000000 := ⟨wb.all, wb.len⟩
    have ta : (∀ n ∈ a, n.set.length ≤ 600) ∧ a.length ≤ 1000000 := ⟨wa.all, wa.len⟩
    have eb := fun q H => e18 b tb q H
    have ea := fun q H => e18 a ta q H
    have pb := pb_tree b
    have pa := pb_tree a
    by_cases hz : j = 0
    · subst hz
      rw [if_pos rfl] at h8
      simp only [D0, SP0, seval, -Int.reduceNatCast', use_p (ft := o4) (f := 45) (spec := k18.ora) rfl, eb, ea, pb, pa, h0, h8, h1, h', hg, hn', hnr, eRl, agetl, pureBs, pureB, fz, fzd, fzd.fzcells, keeps, beqO_refl, lrc_y, lrc_n, apx, apart, apart1, needs, decide_true, Int.natCast_nonneg, Int.toNat_natCast, List.append_cancel_left_eq, List.cons.injEq, Nat.reduceEqDiff, one_ne, zero_ne, eight_ne, ne_eight, id3_ne, id3_row, rowI_eq, row_ne, ne_row, row_ne3, false_and, if_false]
      refine .inl ⟨h, h, _, by rw [hp], rfl, ?_, ?_, ?_, fun _ => ?_, fun id hid => ?_⟩
      · simp [fget, fget_fset, h8, id3b, id3c, row_ne, ne_row]
      · simp [fget, fget_fset, h1, id3b, id3c, row_ne, ne_row]
      · simp [fget, fget_fset, h0, id3b, id3c, row_ne, ne_row]
      · rw [← hsn]; simp [fget, fget_fset, eRl, id3b, id3c, row_ne, ne_row]
      · have nq : ∀ s, (q ++ s = id) = False := fun s => eq_false fun e => hid (e ▸ List.prefix_append _ _)
        have nr : (rowI q = id) = False := nq _
        simp [fget, fget_fset, nq, nr, hF id hid]
    · rw [if_neg hz] at h8
      have hR := hR (by omega)
      have hlt : (r.list.take j).length = j := by simp; omega
      have hc : (j + 1) * 56 ≤ 140737488355328 := by omega
      have hsn' : List.map eRl (r.list.take j) ++ [[AV.list 5 (List.map eNd b), AV.list 5 (List.map eNd a), AV.bool c]] = List.map eRl (r.list.take (j + 1)) := hsn
      simp only [D0, SP0, seval, -Int.reduceNatCast', use_p (ft := o4) (f := 45) (spec := k18.ora) rfl, eb, ea, pb, pa, h0, h8, h1, hR, d08, hlt, hc, h', hg, eRl, agetl, pureBs, pureB, fz, fzd, fzd.fzcells, keeps, beqO_refl, lrc_y, lrc_n, apx, apart, apart1, needs, decide_true, Int.natCast_nonneg, Int.toNat_natCast, List.append_cancel_left_eq, List.cons.injEq, Nat.reduceEqDiff, one_ne, zero_ne, eight_ne, ne_eight, id3_ne, id3_row, rowI_eq, row_ne, ne_row, row_ne3, false_and, if_false]
      refine .inl ⟨h, h, _, by rw [hp], rfl, ?_, ?_, ?_, fun _ => ?_, fun id hid => ?_⟩
      · simp [fget, fget_fset, h8, hR, id3b, id3c, row_ne, ne_row]
      · simp [fget, fget_fset, h1, id3b, id3c, row_ne, ne_row]
      · simp [fget, fget_fset, h0, id3b, id3c, row_ne, ne_row]
      · rw [← hsn']; simp [fget, fget_fset, hR, id3b, id3c, row_ne, ne_row]
      · have nq : ∀ s, (q ++ s = id) = False := fun s => eq_false fun e => hid (e ▸ List.prefix_append _ _)
        have nr : (rowI q = id) = False := nq _
        simp [fget, fget_fset, nq, nr, hF id hid]
  · have h' : ¬ (j : Int) < (r.list.length : Int) := by omega
    have hjl : j = r.list.length := by omega
    subst hjl
    have q1 : ∀ o, fget (fset F (q ++ [1]) o) (q ++ [1]) = some o := fun o => by rw [fget_fset]; simp [h1]
    simp only [D0, SP0, seval, -Int.reduceNatCast', h0, h8, h1, h', decide_false]
    refine .inr ⟨by simp, ?_⟩
    simp only [F1, SF0, SP0, seval, -Int.reduceNatCast', fn1231_res, fn1231_keep, resOf, unnil, q1]
    refine ⟨?_, _, rfl, fun hpos => ?_, fun id hid => ?_⟩
    · unfold ownV
      by_cases hz : r.list.length = 0
      · simp [hz]
      · simp [hz]
    · have := hR hpos
      rw [List.take_length] at this
      simp [fget_fset, ne_row, row_ne, this]
    · have n1 : ¬ q ++ [1] = id := fun e => hid (e ▸ List.prefix_append _ _)
      simp [fget_fset, n1, hF id hid]
end Go.Proofs.Abs

set_option maxRecDepth 100000
set_option maxHeartbeats 16000000
namespace Go.Proofs.Abs
open Go
def Like (r : Rs) (L : List Rl) : Prop := L.length = r.list.length ∧ ∀ x ∈ L, ∃ y ∈ r.list, x.before = y.before ∧ x.after = y.after
theorem good_like {r : Rs} {L : List Rl} (h : goodR r = true) (hx : Like r L) (e : Bool) : goodR (withL r L e) = true := by
  unfold goodR at h ⊢
  simp only [Bool.and_eq_true, decide_eq_true_eq, List.all_eq_true] at h ⊢
  refine ⟨⟨h.1.1, fun x hm => ?_⟩, by show L.length ≤ 40; rw [hx.1]; exact h.2⟩
  obtain ⟨y, hy, e1, e2⟩ := hx.2 x hm
  rw [e1, e2]
  exact h.1.2 y hy
theorem mean_like {r : Rs} {l : List Int} {L : List Rl} (h : MeanD r l) (hx : Like r L) (e : Bool) : MeanD (withL r L e) l := by
  refine ⟨⟨⟨h.r.wf.names, ?_, fun x hm => ?_⟩, ⟨h.r.own.names, fun x hm => ?_, ?_⟩⟩, h.l⟩
  · show L.length ≤ _; rw [hx.1]; exact h.r.wf.list.1
  · obtain ⟨y, hy, e1, e2⟩ := hx.2 x hm
    have := h.r.wf.list.2 y hy
    exact ⟨by rw [e1]; exact this.before, by rw [e2]; exact this.after⟩
  · obtain ⟨y, hy, e1, e2⟩ := hx.2 x hm
    rw [e1, e2]
    exact h.r.own.all y hy
  · show L.length ≤ _; rw [hx.1]; exact h.r.own.len
theorem okR_like {r : Rs} {l : List Int} {L : List Rl} (h : goodR r = true) (hx : Like r L) (e : Bool) : okR (withL r L e) l = okR r l := by
  unfold okR
  rw [good_like h hx e, h]
theorem like_flip (r : Rs) : Like r (r.list.map flipL) := ⟨by simp, fun x hx => by
  obtain ⟨y, hy, rfl⟩ := List.mem_map.1 hx
  exact ⟨y, hy, rfl, rfl⟩⟩
def flj (L : List Rl) (j : Nat) : List Rl := (L.take j).map flipL ++ L.drop j
theorem flj_len (L : List Rl) {j : Nat} (h : j ≤ L.length) : (flj L j).length = L.length := by simp [flj]; omega
theorem flj_get {L : List Rl} {j : Nat} (h : j < L.length) : (List.map eRl (flj L j))[j]? = some (eRl (L.getD j default)) := by
  have hl : ((L.take j).map flipL).length = j := by simp; omega
  rw [List.getElem?_map, flj, List.getElem?_append_right (by omega), hl, Nat.sub_self, List.getElem?_drop, List.getD_eq_getElem?_getD, Nat.add_zero, List.getElem?_eq_getElem h]
  rfl
theorem flj_set {L : List Rl} {j : Nat} (h : j < L.length) : (List.map eRl (flj L j)).set j (eRl (flipL (L.getD j default))) = List.map eRl (flj L (j + 1)) := by
  have hl : ((L.take j).map flipL).length = j := by simp; omega
  rw [← List.map_set]
  congr 1
  have e1 : L.drop j = L.getD j default :: L.drop (j + 1) := by
    rw [List.drop_eq_getElem_cons h, List.getD_eq_getElem?_getD, List.getElem?_eq_getElem h]; rfl
  have e2 : L.take (j + 1) = L.take j ++ [L.getD j default] := by
    rw [List.getD_eq_getElem?_getD, List.getElem?_eq_getElem h]; simp
  unfold flj
  rw [e1, e2, List.set_append_right _ _ (by omega), hl, Nat.sub_self, List.set_cons_zero, List.map_append, List.append_assoc]
  rfl
theorem flj_zero (L : List Rl) : flj L 0 = L := rfl
theorem flj_all (L : List Rl) : flj L L.length = L.map flipL := by simp [flj]
theorem at_spec {r : Rs} {l : List Int} {p : Nat} (hp : p ≤ l.length) : (cntF (breakB r l) p < (breaksL r l).length → ∃ v : Int, (breaksL r l)[cntF (breakB r l) p]? = some v ∧ (v == (p : Int)) = breakB r l p) ∧ (¬ cntF (breakB r l) p < (breaksL r l).length → breakB r l p = false) := by
  have key := breaks_at (r := r) (l := l) (p := p) (by omega)
  constructor
  · intro h
    refine ⟨_, List.getElem?_eq_getElem h, ?_⟩
    rw [Bool.eq_iff_iff, beq_iff_eq, ← key, List.getElem?_eq_getElem h, Option.some.injEq]
  · intro h
    rw [Bool.eq_false_iff]
    intro e
    have := (List.getElem?_eq_some_iff.1 (key.2 e)).1
    exact h this
theorem run1224 (r : Rs) (l : List Int) (n : Nat) (wr : WfR r) (wl : l.length ≤ 9223372036854775807 ∧ ∀ x ∈ l, I64 x) (hn : n < 256) : cwp o4 6 [] [(AV.agg [(AV.list 2 (List.map eNm (Rs.names r))), (AV.list 3 (List.map eRl (Rs.list r))), AV.bool (Rs.els r)]), (AV.list 1 (List.map (fun x => [AV.int .i64 x]) (l))), .int .u8 n] [] (fun v H => v = .bool true ∧ H = []) := by
  refine run_fn (fn := fn1224) rfl rfl ?_
  have dl : WfRow l := ⟨wl.1⟩
  cases g : lightR r l with
  | false =>
    simp (maxSteps := 2000000) only [fn1224_body, c1224, D0, SP0, seval, -Int.reduceNatCast', @use_all o4 11 k1229.ora rfl, e1229, @use_all o4 12 kW.ora rfl, eW, wr, dl, g, fz_rules]
    simp only [F1, SF0, SP0, seval, -Int.reduceNatCast', fn1224_res, fn1224_keep]
  | true =>
  have L := light_rules wr g
  have lm := L.mean
  have lg := L.good
  have ll := L.row
  have lr := L.list
  have ro := L.mean.l
  cases gg : goodR r with
  | false =>
    simp (maxSteps := 2000000) only [fn1224_body, c1224, D0, SP0, seval, -Int.reduceNatCast', @use_all o4 11 k1229.ora rfl, e1229, @use_all o4 22 k1239.ora rfl, e1239, @use_all o4 12 kW.ora rfl, eW, wr, dl, g, gg, lg, goodRef_eq, fz_rules]
    simp only [F1, SF0, SP0, seval, -Int.reduceNatCast', fn1224_res, fn1224_keep]
  | true =>
  have er := fun q H => e1232 r l lm q H
  rw [tellsL_eq] at er
  simp (maxSteps := 2000000) only [fn1224_body, c1224, D0, SP0, seval, -Int.reduceNatCast', @use_all o4 11 k1229.ora rfl, e1229, @use_all o4 22 k1239.ora rfl, e1239, @use_all o4 14 k1232.ora rfl, er, wr, dl, g, gg, lg, goodRef_eq, fz_rules]
  refine cg_use (run301231 r L.own [20] _ (fun id hid => by
    have : ¬ ([0] : Id) = id := fun e => by rw [← e] at hid; simp at hid
    simp [fget, this])) ?_
  rintro v H2 ⟨rfl, F, rfl, hFR, hFn⟩
  have hF0 : fget F [0] = none := hFn [0] (by simp)
  have hX0 : fget (F ++ [([0], AObj.box [(AV.list 2 (List.map eNm (r.names))), (AV.list 3 (List.map eRl (r.list))), .bool r.els])]) [0] = some (.box [(AV.list 2 (List.map eNm (r.names))), (AV.list 3 (List.map eRl (r.list))), .bool r.els]) := by
    rw [fget_append, hF0]; simp [fget]
  have hXR : 0 < r.list.length → fget (F ++ [([0], AObj.box [(AV.list 2 (List.map eNm (r.names))), (AV.list 3 (List.map eRl (r.list))), .bool r.els])]) (rowI [20]) = some (.row true true 42 3 (List.map eRl (flj r.list 0))) := fun h => by
    rw [fget_append, hFR h]; rfl
  have hXn : ∀ id, ¬ [20] <+: id → ¬ [0] = id → fget (F ++ [([0], AObj.box [(AV.list 2 (List.map eNm (r.names))), (AV.list 3 (List.map eRl (r.list))), .bool r.els])]) id = none := fun id h1 h2 => by
    rw [fget_append, hFn id h1]; simp [fget, h2]
  generalize F ++ [([0], AObj.box [(AV.list 2 (List.map eNm (r.names))), (AV.list 3 (List.map eRl (r.list))), .bool r.els])] = X at hX0 hXR hXn
  clear hFR hFn hF0
  unfold ownV
  obtain ⟨vl, hvl⟩ : ∃ vl, vl = (if r.list.length = 0 then AV.list 3 [] else AV.own (rowI [20]) r.list.length) := ⟨_, rfl⟩
  rw [← hvl]
  have x21 : fget X [21] = none := hXn _ (by simp) (by simp)
  simp (maxSteps := 2000000) only [D0, SP0, seval, -Int.reduceNatCast', hX0, x21]
  refine lg_rule (fun j e H => e = [(0, (AV.agg [(AV.list 2 (List.map eNm (Rs.names r))), (AV.list 3 (List.map eRl (Rs.list r))), AV.bool (Rs.els r)])), (1, (AV.list 1 (List.map (fun x => [AV.int .i64 x]) (l)))), (2, .int .u8 n), (3, .ref [0] 1 0 0), (6, .bool false), (7, (AV.list 1 (List.map (fun x => [AV.int .i64 x]) (plA r l)))), (8, .bool (okR r l)), (9, .ref [21] 1 0 0), (10, .int .i64 j)] ∧ j ≤ r.list.length ∧ ∃ Y, H = [Y] ∧ fget Y [0] = some (.box [(AV.list 2 (List.map eNm (r.names))), (AV.list 3 (List.map eRl (r.list))), .bool r.els]) ∧ fget Y [21] = some (.box [(AV.list 2 (List.map eNm (r.names))), vl, .bool (!r.els)]) ∧
    (0 < r.list.length → fget Y (rowI [20]) = some (.row true true 42 3 (List.map eRl (flj r.list j)))) ∧ ∀ id, ¬ [20] <+: id → ¬ [0] = id → ¬ [21] = id → fget Y id = none) r.list.length ?_ ?_
  · refine ⟨rfl, Nat.zero_le _, _, rfl, ?_, ?_, fun h => ?_, fun id h1 h2 h3 => ?_⟩
    · simp [fget, hX0]
    · simp [fget]
    · simp [fget, rowI] at hXR ⊢; exact hXR h
    · simp only [fget, h3, if_false]; exact hXn id h1 h2
  rintro j e H ⟨rfl, hj, Y, rfl, hY0, hY9, hYR, hYn⟩
  clear hX0 hXR hXn x21
  have hlen : ∀ (e : Env) (q : Id) (k : Nat), lenV ⟨e, [] :: [Y], q, k⟩ 1 vl = some (.int .i64 (r.list.length : Nat), ⟨e, [] :: [Y], q, k⟩) := fun e q k => by
    rw [hvl]
    by_cases hz : r.list.length = 0
    · rw [if_pos hz, hz]; rfl
    · rw [if_neg hz]
      have := hYR (by omega)
      have hl := flj_len r.list hj
      simp [lenV, hget, fget, this, hl]
  have hlen2 : ∀ (e : Env) (q : Id) (k : Nat), lenV ⟨e, [Y], q, k⟩ 1 vl = some (.int .i64 (r.list.length : Nat), ⟨e, [Y], q, k⟩) := fun e q k => by
    rw [hvl]
    by_cases hz : r.list.length = 0
    · rw [if_pos hz, hz]; rfl
    · rw [if_neg hz]
      have := hYR (by omega)
      have hl := flj_len r.list hj
      simp [lenV, hget, this, hl]
  by_cases h : j < r.list.length
  · have h' : (j : Int) < (r.list.length : Int) := by omega
    have hp := wrapp (j := j) (by omega)
    have hR := hYR (by omega)
    have hne : ¬ r.list.length = 0 := by omega
    rw [if_neg hne] at hvl
    have hlj := flj_len r.list hj
    have hg := flj_get h
    have hst := flj_set h
    generalize r.list.getD j default = x at hg hst
    have hst2 : (List.map eRl (flj r.list j)).set j [(AV.list 5 (List.map eNd x.before)), (AV.list 5 (List.map eNd x.after)), .bool (!x.brk)] = List.map eRl (flj r.list (j + 1)) := hst
    have d0 : ∀ o, fget (fset Y (rowI [20]) o) [0] = fget Y [0] := fun o => fget_fset_ne Y o (by decide)
    have d9 : ∀ o, fget (fset Y (rowI [20]) o) [21] = fget Y [21] := fun o => fget_fset_ne Y o (by decide)
    simp (maxSteps := 2000000) only [D0, SP0, seval, -Int.reduceNatCast', hlen, hlen2, hY9, h', decide_true]
    rw [hvl] at hY9 ⊢
    simp (maxSteps := 2000000) only [D0, SP0, seval, -Int.reduceNatCast', hY9, hR, hg, eRl, h', hp, hlj, keeps, beqO_refl, lrc_y, lrc_n, lrc_x, apx, apart, apart1, needs, decide_true, Int.natCast_nonneg, Int.toNat_natCast, List.length_map]
    simp only [F1, SF0, SP0, seval, -Int.reduceNatCast']
    rw [hst2]
    refine ⟨h, h, _, rfl, ?_, ?_, fun _ => ?_, fun id h1 h2 h3 => ?_⟩
    · rw [d0]; exact hY0
    · rw [d9]; exact hY9
    · rw [fget_fset, hR]; simp
    · have nr : ¬ rowI [20] = id := fun e => h1 (by rw [← e]; exact List.prefix_append _ _)
      rw [fget_fset_ne Y _ nr]; exact hYn id h1 h2 h3
  have h' : ¬ (j : Int) < (r.list.length : Int) := by omega
  have hjl : j = r.list.length := by omega
  subst hjl
  rw [flj_all] at hYR
  have hfz : ∃ Y2, (∀ b, fz [Y] (.agg [(AV.list 2 (List.map eNm (r.names))), vl, .bool b]) = some (.agg [(AV.list 2 (List.map eNm (r.names))), (AV.list 3 (List.map eRl (r.list.map flipL))), .bool b], [Y2])) ∧ fget Y2 [0] = some (.box [(AV.list 2 (List.map eNm (r.names))), (AV.list 3 (List.map eRl (r.list))), .bool r.els]) ∧ ∀ id, ¬ [20] <+: id → ¬ [0] = id → ¬ [21] = id → fget Y2 id = none := by
    rw [hvl]
    by_cases hz : r.list.length = 0
    · rw [if_pos hz]
      have : r.list = [] := List.length_eq_zero_iff.1 hz
      exact ⟨Y, fun b => by rw [this]; rfl, hY0, hYn⟩
    · rw [if_neg hz]
      have hR := hYR (by omega)
      have hl : (List.map eRl (r.list.map flipL)).length = r.list.length := by simp
      refine ⟨fset Y (rowI [20]) (.row false true 42 3 (List.map eRl (r.list.map flipL))), fun b => ?_, ?_, fun id h1 h2 h3 => ?_⟩
      · simp only [fz, fzd, fzd.fzcells, hget, hset, hR, hl, if_true]
      · rw [fget_fset_ne Y _ (by decide)]; exact hY0
      · have nr : ¬ rowI [20] = id := fun e => h1 (by rw [← e]; exact List.prefix_append _ _)
        rw [fget_fset_ne Y _ nr]; exact hYn id h1 h2 h3
  obtain ⟨Y2, hfz, hZ0, hZn⟩ := hfz
  have lf := like_flip r
  have okF := okR_like (l := l) gg lf (!r.els)
  have fF : ∀ q H, k1232.ora q [.agg [(AV.list 2 (List.map eNm (r.names))), (AV.list 3 (List.map eRl (r.list.map flipL))), .bool (!r.els)], (AV.list 1 (List.map (fun x => [AV.int .i64 x]) (l)))] H = some (.tuple [(AV.list 1 (List.map (fun x => [AV.int .i64 x]) (plA (withL r (r.list.map flipL) (!r.els)) l))), .bool (okR r l)], H) := by
    intro q H
    have h := e1232 (withL r (r.list.map flipL) (!r.els)) l (mean_like lm lf _) q H
    rw [tellsL_eq, okF] at h
    exact h
  cases ok : okR r l with
  | false =>
    have p1 : plA r l = [] := by unfold plA; rw [ok]; rfl
    have p2 : plA (withL r (r.list.map flipL) (!r.els)) l = [] := by unfold plA; rw [okF, ok]; rfl
    rw [ok, p2] at fF
    rw [p1]
    simp (maxSteps := 2000000) only [D0, SP0, seval, -Int.reduceNatCast', hlen, hlen2, hY9, h', decide_false]
    refine .inr ⟨by simp, ?_⟩
    have z0 : ((((0 : Nat) : Int)) == 0) = true := rfl
    simp (maxSteps := 2000000) only [D0, SP0, seval, -Int.reduceNatCast', hY9, hfz, @use_all o4 14 k1232.ora rfl, fF, @use_all o4 12 kW.ora rfl, eW, List.map_nil, List.length_nil, bne_self', beq_self_eq_true, z0]
    simp only [F1, SF0, SP0, seval, -Int.reduceNatCast', fn1224_res, fn1224_keep]
  | true =>
    simp (maxSteps := 2000000) only [D0, SP0, seval, -Int.reduceNatCast', hlen, hlen2, hY9, h', decide_false]
    refine .inr ⟨by simp, ?_⟩
    rw [ok] at fF
    simp (maxSteps := 2000000) only [D0, SP0, seval, -Int.reduceNatCast', hY9, hfz, @use_all o4 14 k1232.ora rfl, fF, bne_self']
    have pr : plA r l = breaksL r l := by unfold plA; rw [ok]; rfl
    have pf : plA (withL r (r.list.map flipL) (!r.els)) l = breaksL (withL r (r.list.map flipL) (!r.els)) l := by unfold plA; rw [okF, ok]; rfl
    rw [pr, pf]
    have hf' : ∀ p, breakB (withL r (r.list.map flipL) (!r.els)) l p = !breakB r l p := fun p => break_flip (r := r) (L := r.list) (e := r.els)
    have lr2 := breaks_len r l
    have lf2 := breaks_len (withL r (r.list.map flipL) (!r.els)) l
    have b1 := plA_le r l
    have b2 := plA_le (withL r (r.list.map flipL) (!r.els)) l
    rw [pr] at b1
    rw [pf] at b2
    generalize withL r (r.list.map flipL) (!r.els) = rf at hf' lf2 b2
    refine lg_rule (fun p e H => e = [(0, (AV.agg [(AV.list 2 (List.map eNm (Rs.names r))), (AV.list 3 (List.map eRl (Rs.list r))), AV.bool (Rs.els r)])), (1, (AV.list 1 (List.map (fun x => [AV.int .i64 x]) (l)))), (2, .int .u8 n), (3, .ref [0] 1 0 0), (6, .bool false), (7, (AV.list 1 (List.map (fun x => [AV.int .i64 x]) (breaksL r l)))), (8, .bool true), (9, .ref [21] 1 0 0), (10, .int .i64 r.list.length), (11, (AV.list 1 (List.map (fun x => [AV.int .i64 x]) (breaksL rf l)))), (12, .bool true), (13, .int .i64 (cntF (breakB r l) p : Nat)), (14, .int .i64 (cntF (breakB rf l) p : Nat)), (15, .int .i64 p)] ∧ H = [Y2] ∧ p ≤ l.length + 1) (l.length + 1) ?_ ?_
    · exact ⟨rfl, rfl, by simp⟩
    rintro p e H ⟨rfl, rfl, hp⟩
    by_cases h2 : p < l.length + 1
    · have h2' : (p : Int) ≤ (l.length : Int) := by omega
      have wp := wrapp (j := p) (by omega)
      obtain ⟨s1, s2⟩ := at_spec (r := r) (l := l) (p := p) (by omega)
      obtain ⟨t1, t2⟩ := at_spec (r := rf) (l := l) (p := p) (by omega)
      have c1 := cntF_succ (breakB r l) p
      have c2 := cntF_succ (breakB rf l) p
      have m1 := cntF_le (breakB r l) (p := p) (n := l.length + 1) (by omega)
      have m2 := cntF_le (breakB rf l) (p := p) (n := l.length + 1) (by omega)
      rw [hf' p] at t1 t2 c2
      have w1 := wrapp (j := cntF (breakB r l) p) (by omega)
      have w2 := wrapp (j := cntF (breakB rf l) p) (by omega)
      generalize cntF (breakB r l) (p + 1) = i1 at c1
      generalize cntF (breakB rf l) (p + 1) = k1 at c2
      generalize cntF (breakB r l) p = i at s1 s2 c1 w1
      generalize cntF (breakB rf l) p = k at t1 t2 c2 w2
      generalize breakB r l p = bp at s1 s2 t1 t2 c1 c2
      by_cases hi : i < (breaksL r l).length
      · have hi' : (i : Int) < ((breaksL r l).length : Int) := by omega
        obtain ⟨v1, g1, v2⟩ := s1 hi
        have g1' : (List.map (fun x : Int => [AV.int .i64 x]) (breaksL r l))[i]? = some [AV.int .i64 v1] := by rw [List.getElem?_map, g1]; rfl
        by_cases hk : k < (breaksL rf l).length
        · have hk' : (k : Int) < ((breaksL rf l).length : Int) := by omega
          obtain ⟨v3, g3, v4⟩ := t1 hk
          have g3' : (List.map (fun x : Int => [AV.int .i64 x]) (breaksL rf l))[k]? = some [AV.int .i64 v3] := by rw [List.getElem?_map, g3]; rfl
          cases bp with
          | true =>
            simp only [if_true, Bool.not_true, Bool.false_eq_true, if_false, Nat.add_zero] at c1 c2 v4
            simp only [D0, SP0, seval, -Int.reduceNatCast', h2', wp, hi', hk', g1', g3', v2, v4, w1, decide_true, Int.natCast_nonneg, Int.toNat_natCast, List.length_map]
            simp only [F1, SF0, SP0, seval, -Int.reduceNatCast', c1, c2]
            exact ⟨h2, by omega⟩
          | false =>
            simp only [Bool.not_false, Bool.false_eq_true, if_true, if_false, Nat.add_zero] at c1 c2 v4
            simp only [D0, SP0, seval, -Int.reduceNatCast', h2', wp, hi', hk', g1', g3', v2, v4, w2, decide_true, Int.natCast_nonneg, Int.toNat_natCast, List.length_map]
            simp only [F1, SF0, SP0, seval, -Int.reduceNatCast', c1, c2]
            exact ⟨h2, by omega⟩
        · have hk' : ¬ (k : Int) < ((breaksL rf l).length : Int) := by omega
          have e := t2 hk
          cases bp with
          | true =>
            simp only [if_true, Bool.not_true, Bool.false_eq_true, if_false, Nat.add_zero] at c1 c2
            simp only [D0, SP0, seval, -Int.reduceNatCast', h2', wp, hi', hk', g1', v2, w1, decide_true, decide_false, Int.natCast_nonneg, Int.toNat_natCast, List.length_map]
            simp only [F1, SF0, SP0, seval, -Int.reduceNatCast', c1, c2]
            exact ⟨h2, by omega⟩
          | false => simp at e
      · have hi' : ¬ (i : Int) < ((breaksL r l).length : Int) := by omega
        have e := s2 hi
        subst e
        by_cases hk : k < (breaksL rf l).length
        · have hk' : (k : Int) < ((breaksL rf l).length : Int) := by omega
          obtain ⟨v3, g3, v4⟩ := t1 hk
          have g3' : (List.map (fun x : Int => [AV.int .i64 x]) (breaksL rf l))[k]? = some [AV.int .i64 v3] := by rw [List.getElem?_map, g3]; rfl
          simp only [Bool.not_false, Bool.false_eq_true, if_true, if_false, Nat.add_zero] at c1 c2 v4
          simp only [D0, SP0, seval, -Int.reduceNatCast', h2', wp, hi', hk', g3', v4, w2, decide_true, decide_false, Int.natCast_nonneg, Int.toNat_natCast, List.length_map]
          simp only [F1, SF0, SP0, seval, -Int.reduceNatCast', c1, c2]
          exact ⟨h2, by omega⟩
        · have e := t2 hk
          simp at e
    · have h2' : ¬ (p : Int) ≤ (l.length : Int) := by omega
      by_cases l2 : (r.list.length : Int) < 2
      · simp only [D0, SP0, seval, -Int.reduceNatCast', h2', decide_false]
        refine .inr ⟨by simp, ?_⟩
        simp only [D0, SP0, seval, -Int.reduceNatCast', hZ0, l2, @use_all o4 12 kW.ora rfl, eW, decide_true]
        simp only [F1, SF0, SP0, seval, -Int.reduceNatCast', fn1224_res, fn1224_keep]
      simp only [D0, SP0, seval, -Int.reduceNatCast', h2', decide_false]
      refine .inr ⟨by simp, ?_⟩
      obtain ⟨k, hk⟩ : ∃ k, k = n % (r.list.length - 1) := ⟨_, rfl⟩
      have hkl : k < r.list.length - 1 := by rw [hk]; exact Nat.mod_lt n (by omega)
      have w1 : IntKind.i64.wrap (n : Int) = (n : Int) := wrap64 (by omega) (by omega)
      have w2 := wrapm (j := r.list.length) (by omega) (by omega)
      have nz : (((r.list.length - 1 : Nat) : Int) = 0) = False := eq_false (by omega)
      have tm : (n : Int).tmod ((r.list.length - 1 : Nat) : Int) = (k : Int) := by rw [hk]; rfl
      have w3 := wrapp (j := k) (by omega)
      have g1 := map_get (f := eRl) (l := r.list) (j := k) (by omega) default
      have g2 := map_get (f := eRl) (l := r.list) (j := k + 1) (by omega) default
      obtain ⟨x, hx⟩ : ∃ x, x = r.list.getD k default := ⟨_, rfl⟩
      obtain ⟨y, hy⟩ : ∃ x, x = r.list.getD (k + 1) default := ⟨_, rfl⟩
      rw [← hx] at g1
      rw [← hy] at g2
      by_cases hb : x.brk = y.brk
      case neg =>
        have hb' : (x.brk == y.brk) = false := by simpa using hb
        simp only [D0, SP0, seval, -Int.reduceNatCast', hZ0, l2, w1, w2, w3, nz, tm, g1, g2, eRl, hb', Bool.not_false, if_false, Option.map_some, @use_all o4 12 kW.ora rfl, eW, lrc_y, lrc_n, lrc_x, apx, apart, apart1, needs, decide_false, Int.natCast_nonneg, Int.toNat_natCast]
        simp only [F1, SF0, SP0, seval, -Int.reduceNatCast', fn1224_res, fn1224_keep]
      have hb' : (x.brk == y.brk) = true := by simpa using hb
      simp only [D0, SP0, seval, -Int.reduceNatCast', hZ0, l2, w1, w2, w3, nz, tm, g1, g2, eRl, hb', Bool.not_true, if_false, Option.map_some, fz_rules, lrc_y, lrc_n, lrc_x, apx, apart, apart1, needs, decide_false, Int.natCast_nonneg, Int.toNat_natCast]
      refine cg_use (run301231 r L.own [74] _ (fun id hid => by
        obtain ⟨t, rfl⟩ := hid
        exact hZn _ (by simp) (by simp) (by simp))) ?_
      rintro v H2 ⟨rfl, F2, rfl, hFR, hFn⟩
      have hR := hFR (by omega)
      have hW0 : fget (F2 ++ Y2) [0] = some (.box [(AV.list 2 (List.map eNm (r.names))), (AV.list 3 (List.map eRl (r.list))), .bool r.els]) := by
        rw [fget_append, hFn [0] (by simp)]; exact hZ0
      have hWR : fget (F2 ++ Y2) (rowI [74]) = some (.row true true 42 3 (List.map eRl r.list)) := by
        rw [fget_append, hR]
      have hW75 : fget (F2 ++ Y2) [75] = none := by
        rw [fget_append, hFn [75] (by simp)]; exact hZn _ (by simp) (by simp) (by simp)
      generalize F2 ++ Y2 = Z at hW0 hWR hW75
      unfold ownV
      rw [if_neg (show ¬ r.list.length = 0 by omega)]
      have d75 : ∀ o, fget (fset Z (rowI [74]) o) [75] = fget Z [75] := fun o => fget_fset_ne Z o (by decide)
      have dR : ∀ o, fget (fset Z (rowI [74]) o) (rowI [74]) = some o := fun o => by rw [fget_fset]; simp [hWR]
      have n75 : (([75] : Id) = rowI [74]) = False := eq_false (by decide)
      have g1' : (List.map eRl r.list)[k]? = some [(AV.list 5 (List.map eNd x.before)), (AV.list 5 (List.map eNd x.after)), .bool x.brk] := g1
      have g2' : (List.map eRl r.list)[k + 1]? = some [(AV.list 5 (List.map eNd y.before)), (AV.list 5 (List.map eNd y.after)), .bool y.brk] := g2
      have g3 : ((List.map eRl r.list).set k [(AV.list 5 (List.map eNd y.before)), (AV.list 5 (List.map eNd y.after)), .bool y.brk])[k + 1]? = some [(AV.list 5 (List.map eNd y.before)), (AV.list 5 (List.map eNd y.after)), .bool y.brk] := by
        rw [List.getElem?_set_ne (by omega)]; exact g2
      have hk1 : ((k + 1 : Nat) : Int) < (r.list.length : Int) := by omega
      have hk0 : (k : Int) < (r.list.length : Int) := by omega
      have dR2 : ∀ o o', fget (fset (fset Z (rowI [74]) o) (rowI [74]) o') (rowI [74]) = some o' := fun o o' => by rw [fget_fset]; simp [dR]
      obtain ⟨A, hA⟩ : ∃ A, A = r.list.take k := ⟨_, rfl⟩
      obtain ⟨B, hB⟩ : ∃ B, B = r.list.drop (k + 2) := ⟨_, rfl⟩
      have hsp : r.list = A ++ [x, y] ++ B := by
        have e1 : r.list.drop k = x :: r.list.drop (k + 1) := by
          rw [List.drop_eq_getElem_cons (by omega), hx, List.getD_eq_getElem?_getD, List.getElem?_eq_getElem (by omega)]; rfl
        have e2 : r.list.drop (k + 1) = y :: r.list.drop (k + 2) := by
          rw [List.drop_eq_getElem_cons (by omega), hy, List.getD_eq_getElem?_getD, List.getElem?_eq_getElem (by omega)]; rfl
        rw [hA, hB, List.append_assoc, List.cons_append, List.cons_append, List.nil_append, ← e2, ← e1, List.take_append_drop]
      have lA : A.length = k := by rw [hA, List.length_take]; omega
      have mSW : ((List.map eRl r.list).set k [(AV.list 5 (List.map eNd y.before)), (AV.list 5 (List.map eNd y.after)), .bool y.brk]).set (k + 1) [(AV.list 5 (List.map eNd x.before)), (AV.list 5 (List.map eNd x.after)), .bool x.brk] = List.map eRl (A ++ [y, x] ++ B) := by
        have lA2 : (List.map eRl A).length = k := by rw [List.length_map, lA]
        rw [hsp]
        simp only [List.map_append, List.map_cons, List.map_nil, List.append_assoc, List.cons_append, List.nil_append]
        rw [List.set_append_right _ _ (by omega), lA2, Nat.sub_self, List.set_cons_zero, List.set_append_right _ _ (by omega), lA2, show k + 1 - k = 1 by omega]
        rfl
      have lk : Like r (A ++ [y, x] ++ B) := by
        constructor
        · rw [hsp]; simp
        · intro z hz
          refine ⟨z, ?_, rfl, rfl⟩
          rw [hsp]
          simp only [List.mem_append, List.mem_cons, List.not_mem_nil, or_false] at hz ⊢
          rcases hz with (h | h | h) | h
          · exact .inl (.inl h)
          · exact .inl (.inr (.inr h))
          · exact .inl (.inr (.inl h))
          · exact .inr h
      have okS := okR_like (l := l) gg lk r.els
      have pS : plA (withL r (A ++ [y, x] ++ B) r.els) l = breaksL r l := by
        unfold plA
        rw [okS, ok, if_pos rfl]
        refine breaks_congr fun i hi => ?_
        have := break_swap (r := r) (A := A) (B := B) (e := r.els) (l := l) (i := i) hb
        rw [← this, ← hsp]
        rfl
      have fS : ∀ q H, k1232.ora q [.agg [(AV.list 2 (List.map eNm (r.names))), (AV.list 3 (List.map eRl (A ++ [y, x] ++ B))), .bool r.els], (AV.list 1 (List.map (fun x => [AV.int .i64 x]) (l)))] H = some (.tuple [(AV.list 1 (List.map (fun x => [AV.int .i64 x]) (breaksL r l))), .bool true], H) := by
        intro q H
        have h := e1232 (withL r (A ++ [y, x] ++ B) r.els) l (mean_like lm lk _) q H
        rw [tellsL_eq, okS, ok, pS] at h
        exact h
      have lS : (List.map eRl (A ++ [y, x] ++ B)).length = r.list.length := by rw [List.length_map, lk.1]
      generalize A ++ [y, x] ++ B = SW at mSW fS lS
      have hbl : (breaksL r l).length ≤ 9223372036854775807 := by omega
      simp only [D0, SP0, seval, -Int.reduceNatCast', hW0, hWR, hW75, d75, dR, dR2, n75, w3, g1', g2', g3, mSW, lS, hk0, hk1, @use_all o4 18 k1023.ora rfl, e1023, hbl, @use_all o4 14 k1232.ora rfl, fS, @use_all o4 12 kW.ora rfl, eW, fz, fzd, fzd.fzcells, keeps, beqO_refl, lrc_y, lrc_n, lrc_x, apx, apart, apart1, needs, if_false, decide_false, decide_true, Int.natCast_nonneg, Int.toNat_natCast, List.length_map, List.length_set]
      simp only [F1, SF0, SP0, seval, -Int.reduceNatCast', fn1224_res, fn1224_keep]
end Go.Proofs.Abs
