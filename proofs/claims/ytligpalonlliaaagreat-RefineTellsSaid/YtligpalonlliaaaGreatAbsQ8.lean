/- A part of a proof: the text that states the row tells what is proved. No condition is laid on anything. -/
import Derived.Test.YtligpalonlliaaaGreatAbsP
import Derived.Test.YtligpalonlliaaaGreatAbsQ6
import Derived.Test.YtligpalonlliaaaGreatAbsQ7
set_option linter.all false
set_option linter.constructorNameAsVariable false
set_option linter.defProp false
set_option linter.unusedVariables false
set_option linter.unusedSimpArgs false
namespace Go.Proofs.Abs
open Go Go.Proofs Go.RowKit
/-! slices.Sort and slices.SortFunc, in place, as oracles that can be reckoned. -/
theorem sort_post {C : Ctx} {q id : Id} {fl : Bool} {el sz : Nat} {rows rows' : List (List AV)} {xs : List Value} {w' : World} (hr : HRep C) (ho : hget C.H id = some (.row true fl el sz rows)) (hlen : rows'.length = rows.length)
    (hl : ∀ r ∈ rows', r.length = sz) (hc : Cells rows'.flatten) (hx : ∀ C', RepL C' rows'.flatten xs) (hrow : w'.ownsRow 0 el sz (C.φ id) rows'.length xs) (hsize : C.w.heap.size ≤ w'.heap.size)
    (ht : w'.tape = C.w.tape) (hos : w'.os = C.w.os) (hou : w'.output = C.w.output) (hoth : ∀ k, k < C.w.heap.size → some k ≠ blk (C.φ id) → w'.heap[k]? = C.w.heap[k]?) :
    CallPost C q (.tuple []) (hset C.H id (.row true fl el sz rows')) (.returned (.tuple #[])) w' := by
  have hs : SetOk C id (.row true fl el sz rows) (.row true fl el sz rows') (C.φ id) w' :=
    ⟨ho, rfl, by simp only [asize, hlen]; exact Nat.le_refl _, fun _ => rfl, hsize, ht, hos, hou, hoth, fun _ _ _ hm => absurd (.inl rfl) hm, .inl ⟨rfl, fun off hmm => .inl rfl⟩⟩
  have he := Ext.set hs
  obtain ⟨h0, _⟩ := hr.obj id _ ho
  refine ⟨.tuple #[], C.put (hset C.H id (.row true fl el sz rows')) id (C.φ id) w' C.Av, rfl, rfl, rfl, HRep.set hr hs (fun _ => ⟨h0, hl, hc, xs, by rw [put_self]; exact hrow, hx _⟩), .tuple [] [] rfl (fun j av v e => by simp at e), he, fun i h1 _ => h1⟩
def niRows (l : List Int) : List (List AV) := l.map fun x => [.int .i64 x]
def niOf : List (List AV) → Option (List Int)
  | [] => some []
  | [.int .i64 a] :: r => match niOf r with
    | some l => some (a :: l)
    | none => none
  | _ => none
theorem niOf_rows : ∀ l, niOf (niRows l) = some l
  | [] => rfl
  | x :: r => by
    have := niOf_rows r
    unfold niRows at this ⊢
    simp [niOf, this]
theorem niOf_some : ∀ {rows : List (List AV)} {l : List Int}, niOf rows = some l → rows = niRows l
  | [], l, h => by simp [niOf] at h; subst h; rfl
  | r :: rs, l, h => by
    unfold niOf at h
    split at h
    · rename_i heq; cases heq
    · rename_i a r' heq
      injection heq with e1 e2
      subst e1 e2
      split at h
      · rename_i l' hl'
        injection h with h
        subst h
        rw [niOf_some hl']; rfl
      · cases h
    · cases h
theorem niRows_length (l : List Int) : (niRows l).length = l.length := by simp [niRows]
theorem niRows_cells (l : List Int) (C : Ctx) : Cells (niRows l).flatten ∧ RepL C (niRows l).flatten (Rg.cellsI l) := by
  induction l with
  | nil => exact ⟨Cells.nil, RepL.nil⟩
  | cons x r ih =>
    simp only [niRows, List.map_cons, List.flatten_cons, Rg.cellsI] at ih ⊢
    exact ⟨(Cells.cons rfl Cells.nil).app ih.1, (RepL.cons (.int _ _) RepL.nil).app ih.2⟩
def t3Rows (l : List Rg.T3) : List (List AV) := l.map fun x => [.int .i64 x.1, .int .i64 x.2.1, .int .i64 x.2.2]
def t3Of : List (List AV) → Option (List Rg.T3)
  | [] => some []
  | [.int .i64 a, .int .i64 b, .int .i64 c] :: r => match t3Of r with
    | some l => some ((a, b, c) :: l)
    | none => none
  | _ => none
theorem t3Of_rows : ∀ l, t3Of (t3Rows l) = some l
  | [] => rfl
  | x :: r => by
    have := t3Of_rows r
    unfold t3Rows at this ⊢
    simp [t3Of, this]
theorem t3Of_some : ∀ {rows : List (List AV)} {l : List Rg.T3}, t3Of rows = some l → rows = t3Rows l
  | [], l, h => by simp [t3Of] at h; subst h; rfl
  | r :: rs, l, h => by
    unfold t3Of at h
    split at h
    · rename_i heq; cases heq
    · rename_i a b c r' heq
      injection heq with e1 e2
      subst e1 e2
      split at h
      · rename_i l' hl'
        injection h with h
        subst h
        rw [t3Of_some hl']; rfl
      · cases h
    · cases h
theorem t3Rows_length (l : List Rg.T3) : (t3Rows l).length = l.length := by simp [t3Rows]
theorem t3Rows_cells (l : List Rg.T3) (C : Ctx) : Cells (t3Rows l).flatten ∧ RepL C (t3Rows l).flatten (Rg.cellsT l) := by
  induction l with
  | nil => exact ⟨Cells.nil, RepL.nil⟩
  | cons x r ih =>
    simp only [t3Rows, List.map_cons, List.flatten_cons, Rg.cellsT, List.flatMap_cons] at ih ⊢
    exact ⟨(Cells.cons rfl (Cells.cons rfl (Cells.cons rfl Cells.nil))).app ih.1, (RepL.cons (.int _ _) (RepL.cons (.int _ _) (RepL.cons (.int _ _) RepL.nil))).app ih.2⟩
def distB : List Rg.T3 → Bool
  | [] => true
  | x :: r => r.all (fun y => decide (x.1 ≠ y.1)) && distB r
theorem distB_iff : ∀ {l : List Rg.T3}, distB l = true ↔ Rg.DistT l
  | [] => by simp [distB, Rg.DistT]
  | x :: r => by
    have := distB_iff (l := r)
    unfold Rg.DistT at this ⊢
    simp only [distB, Bool.and_eq_true, List.all_eq_true, decide_eq_true_eq, List.pairwise_cons, this]
def sortISpec (q : Id) (args : List AV) (H : Heap) : Option (AV × Heap) :=
  match args with
  | [.own id n] => match hget H id with
    | some (.row true true 3 1 rows) => match niOf rows with
      | some l => if l.length = n ∧ 0 < n ∧ n ≤ 1000000 then some (.tuple [], hset H id (.row true true 3 1 (niRows (Rg.sortN l)))) else none
      | none => none
    | _ => none
  | _ => none
def sortStSpec (q : Id) (args : List AV) (H : Heap) : Option (AV × Heap) :=
  match args with
  | [.own id n, .func 33 []] => match hget H id with
    | some (.row true true 69 3 rows) => match t3Of rows with
      | some l => if l.length = n ∧ n ≤ 1000000 ∧ distB l = true then some (.tuple [], hset H id (.row true true 69 3 (t3Rows (Rg.sortT l)))) else none
      | none => none
    | _ => none
  | _ => none
theorem sortI_ok : OraOK Tryz.prog 48 sortISpec := by
  intro q args H r H' h
  refine ⟨enters_of Tryz.func48 (by kernel_rfl) rfl, ?_⟩
  unfold sortISpec at h
  split at h
  rotate_left
  · cases h
  rename_i id n
  split at h
  rotate_left
  · cases h
  rename_i rows hget
  split at h
  rotate_left
  · cases h
  rename_i l hl
  split at h
  rotate_left
  · cases h
  rename_i hn
  obtain ⟨hn1, hn2, hn3⟩ := hn
  simp only [Option.some.injEq, Prod.mk.injEq] at h
  obtain ⟨rfl, rfl⟩ := h
  obtain rfl := niOf_some hl
  intro C vs hH hr hav hL
  obtain ⟨hll, hlv⟩ := hL
  match vs, hll with
  | [v0], _ =>
    have r0 := hlv 0 _ _ rfl rfl
    subst hH
    cases r0 with
    | own _ _ _ ha hs hoo =>
    have hφ := (hoo _ hget).2 (by simp only [asize]; rw [niRows_length]; exact hn1)
    rcases hφ with rfl | ⟨h0, _⟩
    rotate_left
    · omega
    obtain ⟨h0, h1, h2, xs, h3, h4⟩ := hr.obj id _ hget
    have hxs : xs = Rg.cellsI l := by
      have hc := (niRows_cells l C).2
      refine List.ext_getElem (by rw [← h4.1, hc.1]) fun j j1 j2 => ?_
      have hj : j < (niRows l).flatten.length := by rw [h4.1]; exact j1
      have e0 := List.getElem?_eq_getElem hj
      have a := h4.2 j _ _ e0 (List.getElem?_eq_getElem j1)
      have b := hc.2 j _ _ e0 (List.getElem?_eq_getElem j2)
      have hi : ∃ x, (niRows l).flatten[j] = .int .i64 x := by
        have := List.getElem_mem hj
        obtain ⟨r, hr1, hr2⟩ := List.mem_flatten.1 this
        obtain ⟨x, _, rfl⟩ := List.mem_map.1 hr1
        exact ⟨x, List.mem_singleton.1 hr2⟩
      obtain ⟨x, hx⟩ := hi
      rw [hx] at a b
      have ra : ∀ {v : Value}, Rep C (.int .i64 x) v → v = .int .i64 x := fun h => by cases h; rfl
      rw [ra a, ra b]
    subst hxs
    rcases h3.2 with ⟨_, hn0⟩ | ⟨g, cap, cur, hv, _, hg, hcap, hcm, hcs, htk⟩
    · rw [niRows_length] at hn0; omega
    · rw [niRows_length] at hv hcap htk
      have hsort := Rg.sortI_own C.w g cap cur l hg hcap hcm hcs htk (by omega)
      rw [← hv] at hsort
      refine hsort.mono ?_
      rintro e w' ⟨rfl, hrow, ht, ho, hou, hsz, hoth⟩
      have hlen : (niRows (Rg.sortN l)).length = (niRows l).length := by simp [niRows_length, Rg.sortN_length]
      refine sort_post hr hget hlen (fun r hr' => ?_) (niRows_cells _ C).1 (fun C' => (niRows_cells _ C').2) ?_ hsz ht ho hou (fun k hk hne => hoth k hk ?_)
      · obtain ⟨x, _, rfl⟩ := List.mem_map.1 hr'; rfl
      · rw [niRows_length, Rg.sortN_length]; exact hrow
      · intro e; subst e; exact hne (by rw [hv]; rfl)
theorem sortSt_ok : OraOK Tryz.prog 32 sortStSpec := by
  intro q args H r H' h
  refine ⟨enters_of Tryz.func32 (by kernel_rfl) rfl, ?_⟩
  unfold sortStSpec at h
  split at h
  rotate_left
  · cases h
  rename_i id n
  split at h
  rotate_left
  · cases h
  rename_i rows hget
  split at h
  rotate_left
  · cases h
  rename_i l hl
  split at h
  rotate_left
  · cases h
  rename_i hn
  obtain ⟨hn1, hn3, hd⟩ := hn
  have hd := distB_iff.1 hd
  simp only [Option.some.injEq, Prod.mk.injEq] at h
  obtain ⟨rfl, rfl⟩ := h
  obtain rfl := t3Of_some hl
  intro C vs hH hr hav hL
  obtain ⟨hll, hlv⟩ := hL
  match vs, hll with
  | [v0, v1], _ =>
    have r0 := hlv 0 _ _ rfl rfl
    have r1 := hlv 1 _ _ rfl rfl
    subst hH
    cases r1 with
    | func _ _ us ul uv =>
    match us, ul with
    | [], _ =>
    cases r0 with
    | own _ _ _ ha hs hoo =>
    obtain ⟨h0, h1, h2, xs, h3, h4⟩ := hr.obj id _ hget
    have hxs : xs = Rg.cellsT l := by
      have hc := (t3Rows_cells l C).2
      refine List.ext_getElem (by rw [← h4.1, hc.1]) fun j j1 j2 => ?_
      have hj : j < (t3Rows l).flatten.length := by rw [h4.1]; exact j1
      have e0 := List.getElem?_eq_getElem hj
      have a := h4.2 j _ _ e0 (List.getElem?_eq_getElem j1)
      have b := hc.2 j _ _ e0 (List.getElem?_eq_getElem j2)
      have hi : ∃ x, (t3Rows l).flatten[j] = .int .i64 x := by
        have := List.getElem_mem hj
        obtain ⟨r, hr1, hr2⟩ := List.mem_flatten.1 this
        obtain ⟨x, _, rfl⟩ := List.mem_map.1 hr1
        simp only [List.mem_cons, List.not_mem_nil, or_false] at hr2
        rcases hr2 with h | h | h <;> exact ⟨_, h⟩
      obtain ⟨x, hx⟩ := hi
      rw [hx] at a b
      have ra : ∀ {v : Value}, Rep C (.int .i64 x) v → v = .int .i64 x := fun h => by cases h; rfl
      rw [ra a, ra b]
    subst hxs
    have hφ := (hoo _ hget).2 (by simp only [asize]; rw [t3Rows_length]; exact hn1)
    by_cases hz : n = 0
    · have hl0 : l = [] := List.eq_nil_of_length_eq_zero (by omega)
      subst hl0
      have hv0 : ∃ p cap, v0 = .slice p 0 cap := by
        rcases hφ with rfl | ⟨_, _, b, rfl⟩
        · rcases h3.2 with ⟨e, _⟩ | ⟨g, cap, cur, e, _⟩
          · exact ⟨_, _, e⟩
          · exact ⟨_, _, e⟩
        · exact ⟨_, _, rfl⟩
      obtain ⟨p, cap, rfl⟩ := hv0
      refine (AnyF.slices_SortFunc_none Tryz.sortSt p cap _ C.w).mono ?_
      rintro e w' ⟨rfl, rfl⟩
      exact sort_post (rows' := t3Rows (Rg.sortT [])) hr hget rfl (fun r hr' => by cases hr') (t3Rows_cells [] C).1 (fun C' => (t3Rows_cells [] C').2) h3 (Nat.le_refl _) rfl rfl rfl (fun _ _ _ => rfl)
    rcases hφ with rfl | ⟨hz', _⟩
    rotate_left
    · exact absurd hz' hz
    rcases h3.2 with ⟨_, hn0⟩ | ⟨g, cap, cur, hv, _, hg, hcap, hcm, hcs, htk⟩
    · rw [t3Rows_length] at hn0; omega
    · rw [t3Rows_length] at hv hcap htk
      have hsort := Rg.sortT_own C.w g cap cur l hg hcap hcm hcs htk (by omega) hd
      rw [← hv] at hsort
      refine hsort.mono ?_
      rintro e w' ⟨rfl, hrow, ht, ho, hou, hsz, hoth⟩
      have hlen : (t3Rows (Rg.sortT l)).length = (t3Rows l).length := by simp [t3Rows_length, Rg.sortT_length]
      refine sort_post hr hget hlen (fun r hr' => ?_) (t3Rows_cells _ C).1 (fun C' => (t3Rows_cells _ C').2) ?_ hsz ht ho hou (fun k hk hne => hoth k hk ?_)
      · obtain ⟨x, _, rfl⟩ := List.mem_map.1 hr'; rfl
      · rw [t3Rows_length, Rg.sortT_length]; exact hrow
      · intro e; subst e; exact hne (by rw [hv]; rfl)
theorem rep_list_take {C : Ctx} {sz k : Nat} {rows : List (List AV)} {b : Option Addr} {n cap : Nat} (h : Rep C (.list sz rows) (.slice b n cap)) (hk : k ≤ rows.length) : Rep C (.list sz (rows.take k)) (.slice b k cap) := by
  have fl : ∀ (rs : List (List AV)) (k j : Nat) (av : AV), (rs.take k).flatten[j]? = some av → rs.flatten[j]? = some av := by
    intro rs
    induction rs with
    | nil => intro k j av e; simp at e
    | cons r rs ih =>
      intro k j av e
      cases k with
      | zero => simp at e
      | succ k =>
        simp only [List.take_succ_cons, List.flatten_cons] at e ⊢
        by_cases hj : j < r.length
        · rw [List.getElem?_append_left hj] at e ⊢; exact e
        · rw [List.getElem?_append_right (by omega)] at e ⊢; exact ih _ _ _ e
  cases h with
  | list _ _ base cap vals h0 hc hz hr hb hf hv =>
    have e : (rows.take k).length = k := by simp; omega
    have := Rep.list (C := C) sz (rows.take k) b cap vals h0 (by omega) hz (fun r hr' => hr r (List.mem_of_mem_take hr')) (fun hne => hb (fun e0 => hne (by rw [e0]; simp))) (fun j av ej => hf j av (fl _ _ _ _ ej)) (fun j av ej => hv j av (fl _ _ _ _ ej))
    rw [e] at this
    exact this
def compSpec (q : Id) (args : List AV) (H : Heap) : Option (AV × Heap) :=
  match args with
  | [.own id n] => match hget H id with
    | some (.row true true 3 1 rows) => match niOf rows with
      | some l => if l.length = n ∧ 0 < n ∧ n ≤ 1000000 then some (.list 1 (niRows (Lib.compact l)), hset (hset H id (.row true true 3 1 (niRows (Lib.compact l ++ List.replicate (l.length - (Lib.compact l).length) 0)))) id (.row false true 3 1 (niRows (Lib.compact l ++ List.replicate (l.length - (Lib.compact l).length) 0)))) else none
      | none => none
    | _ => none
  | _ => none
theorem comp_ok : OraOK Tryz.prog 49 compSpec := by
  intro q args H r H' h
  refine ⟨enters_of Tryz.func49 (by kernel_rfl) rfl, ?_⟩
  unfold compSpec at h
  split at h
  rotate_left
  · cases h
  rename_i id n
  split at h
  rotate_left
  · cases h
  rename_i rows hget
  split at h
  rotate_left
  · cases h
  rename_i l hl
  split at h
  rotate_left
  · cases h
  rename_i hn
  obtain ⟨hn1, hn2, hn3⟩ := hn
  simp only [Option.some.injEq, Prod.mk.injEq] at h
  obtain ⟨rfl, rfl⟩ := h
  obtain rfl := niOf_some hl
  intro C vs hH hr hav hL
  obtain ⟨hll, hlv⟩ := hL
  match vs, hll with
  | [v0], _ =>
    have r0 := hlv 0 _ _ rfl rfl
    subst hH
    cases r0 with
    | own _ _ _ ha hs hoo =>
    have hφ := (hoo _ hget).2 (by simp only [asize]; rw [niRows_length]; exact hn1)
    rcases hφ with rfl | ⟨h0, _⟩
    rotate_left
    · omega
    obtain ⟨h0, h1, h2, xs, h3, h4⟩ := hr.obj id _ hget
    have hxs : xs = Rg.cellsI l := by
      have hc := (niRows_cells l C).2
      refine List.ext_getElem (by rw [← h4.1, hc.1]) fun j j1 j2 => ?_
      have hj : j < (niRows l).flatten.length := by rw [h4.1]; exact j1
      have e0 := List.getElem?_eq_getElem hj
      have a := h4.2 j _ _ e0 (List.getElem?_eq_getElem j1)
      have b := hc.2 j _ _ e0 (List.getElem?_eq_getElem j2)
      have hi : ∃ x, (niRows l).flatten[j] = .int .i64 x := by
        have := List.getElem_mem hj
        obtain ⟨r, hr1, hr2⟩ := List.mem_flatten.1 this
        obtain ⟨x, _, rfl⟩ := List.mem_map.1 hr1
        exact ⟨x, List.mem_singleton.1 hr2⟩
      obtain ⟨x, hx⟩ := hi
      rw [hx] at a b
      have ra : ∀ {v : Value}, Rep C (.int .i64 x) v → v = .int .i64 x := fun h => by cases h; rfl
      rw [ra a, ra b]
    subst hxs
    rcases h3.2 with ⟨_, hn0⟩ | ⟨g, cap, cur, hv, _, hg, hcap, hcm, hcs, htk⟩
    · rw [niRows_length] at hn0; omega
    · rw [niRows_length] at hv hcap htk
      have hcomp := Rg.compI_own C.w g cap cur l hg hcap hcm hcs htk (by omega)
      rw [← hv] at hcomp
      refine hcomp.mono ?_
      rintro e w' ⟨rfl, hrow, ht, hos, hou, hsize, hoth⟩
      have hlc := Rg.compact_len l
      generalize hLe : Lib.compact l ++ List.replicate (l.length - (Lib.compact l).length) 0 = L at hrow
      have hLl : L.length = l.length := by rw [← hLe]; simp; omega
      have hLt : (niRows L).take (Lib.compact l).length = niRows (Lib.compact l) := by
        rw [← hLe]; simp [niRows]
      have hoth' : ∀ k, k < C.w.heap.size → some k ≠ blk (C.φ id) → w'.heap[k]? = C.w.heap[k]? := fun k hk hne => hoth k hk (fun e => hne (by rw [e, hv]; rfl))
      have hset1 : SetOk C id (.row true true 3 1 (niRows l)) (.row true true 3 1 (niRows L)) (C.φ id) w' :=
        ⟨hget, rfl, by simp only [asize, niRows_length, hLl]; exact Nat.le_refl _, fun _ => rfl, hsize, ht, hos, hou, hoth', fun _ _ _ hm => absurd (.inl rfl) hm, .inl ⟨rfl, fun off hmm => .inl rfl⟩⟩
      have he := Ext.set hset1
      have hr1 := HRep.set hr hset1 (fun _ => ⟨h0, fun r hr' => by obtain ⟨x, _, rfl⟩ := List.mem_map.1 hr'; rfl, (niRows_cells L C).1, _, by rw [put_self, niRows_length, hLl]; exact hrow, (niRows_cells L _).2⟩)
      generalize hC1 : C.put (hset C.H id (.row true true 3 1 (niRows L))) id (C.φ id) w' C.Av = C1 at he hr1
      have hH1 : C1.H = hset C.H id (.row true true 3 1 (niRows L)) := by rw [← hC1]; rfl
      have hg1 : Abs.hget C1.H id = some (.row true true 3 1 (niRows L)) := by rw [hH1, hset_some hget, if_pos rfl]
      have hw1 : C1.w = w' := by rw [← hC1]; rfl
      have hφ1 : C1.φ id = C.φ id := by rw [← hC1]; exact put_self _ _ _ _ _ _
      have hA1 : C1.Av = C.Av := by rw [← hC1]; rfl
      have hfl := FlagLe.set hg1
      have hr2 := hfl.hrep hr1
      have he2 := hfl.ext (C := C1)
      have hrep := rep_list_of_row (C := { C1 with H := hset C1.H id (.row false true 3 1 (niRows L)) }) hr2 (e := 3) (sz := 1) (fl := true) (rows := niRows L) (rows' := niRows L) (id := id) (by show Abs.hget (hset C1.H id _) id = _; rw [hget_hset, if_pos ⟨rfl, by rw [hg1]; rfl⟩]) rfl (fun r hr' => by obtain ⟨x, _, rfl⟩ := List.mem_map.1 hr'; rfl) (niRows_cells L C).1 (fun xs _ h => h)
      have hφ2 : ({ C1 with H := hset C1.H id (.row false true 3 1 (niRows L)) } : Ctx).φ id = .slice (some ⟨g, 0, none⟩) l.length cap := hφ1.trans hv
      rw [hφ2] at hrep
      have hrep2 := rep_list_take (k := (Lib.compact l).length) hrep (by rw [niRows_length, hLl]; exact hlc)
      rw [hLt] at hrep2
      refine ⟨_, { C1 with H := hset C1.H id (.row false true 3 1 (niRows L)) }, rfl, hw1, by rw [hH1], hr2, hrep2, he.trans he2, fun i h1 _ => ?_⟩
      show C1.Av i
      rw [hA1]
      exact h1
end Go.Proofs.Abs
