/- A part of a proof: the text that states the row tells what is proved. No condition is laid on anything. -/
import Derived.Shelf.SlSortCmp.NoneTotal
import Derived.Shelf.Sort.Plain
import Derived.Shelf.Slices.CompactI
import Derived.Test.YtligpalonlliaaaGreatAbsQ2
import Derived.Test.YtligpalonlliaaaGreatAbsQ3
import Derived.Test.YtligpalonlliaaaGreatAbsQ4
set_option linter.all false
set_option linter.constructorNameAsVariable false
set_option linter.defProp false
set_option linter.unusedVariables false
set_option linter.unusedSimpArgs false
namespace Go.Proofs.Rg
open Go Go.Proofs Go.RowKit Go.Sort Go.Shelf Go.Lib
/-! slices.SortFunc at stretches (a range, a number), by where they begin. -/
abbrev T3 := Int × Int × Int
def insT (x : T3) : List T3 → List T3
  | [] => [x]
  | y :: r => if y.1 < x.1 then y :: insT x r else x :: y :: r
def sortT : List T3 → List T3
  | [] => []
  | x :: r => insT x (sortT r)
theorem insT_perm (x : T3) : ∀ l, (insT x l).Perm (x :: l)
  | [] => .refl _
  | y :: r => by
    unfold insT
    split
    · exact ((insT_perm x r).cons y).trans (.swap _ _ _)
    · exact .refl _
theorem sortT_perm : ∀ l, (sortT l).Perm l
  | [] => .refl _
  | x :: r => (insT_perm x _).trans ((sortT_perm r).cons x)
theorem sortT_length (l : List T3) : (sortT l).length = l.length := (sortT_perm l).length_eq
def SortedT (l : List T3) : Prop := l.Pairwise fun a b => a.1 ≤ b.1
theorem insT_sorted (x : T3) : ∀ l, SortedT l → SortedT (insT x l)
  | [], _ => by simp [insT, SortedT]
  | y :: r, h => by
    obtain ⟨h1, h2⟩ := List.pairwise_cons.1 h
    unfold insT
    split
    · rename_i hlt
      refine List.pairwise_cons.2 ⟨fun b hb => ?_, insT_sorted x r h2⟩
      rcases List.mem_cons.1 ((insT_perm x r).mem_iff.1 hb) with rfl | hb
      · omega
      · exact h1 b hb
    · rename_i hlt
      refine List.pairwise_cons.2 ⟨fun b hb => ?_, h⟩
      rcases List.mem_cons.1 hb with rfl | hb
      · omega
      · have := h1 b hb
        omega
theorem sortT_sorted : ∀ l, SortedT (sortT l)
  | [] => .nil
  | x :: r => insT_sorted x _ (sortT_sorted r)
/-- All begin elsewhere. -/
def DistT (l : List T3) : Prop := l.Pairwise fun a b => a.1 ≠ b.1
theorem DistT.perm {a b : List T3} (h : a.Perm b) (hd : DistT a) : DistT b := (h.pairwise_iff fun {x y} e => Ne.symm e).1 hd
theorem sortedT_one : ∀ {a b : List T3}, a.Perm b → DistT a → SortedT a → SortedT b → a = b
  | [], b, hp, _, _, _ => by simpa using hp.symm.eq_nil.symm
  | x :: r, [], hp, _, _, _ => absurd hp.eq_nil (by simp)
  | x :: r, y :: s, hp, hd, ha, hb => by
    obtain ⟨a1, a2⟩ := List.pairwise_cons.1 ha
    obtain ⟨b1, b2⟩ := List.pairwise_cons.1 hb
    obtain ⟨d1, d2⟩ := List.pairwise_cons.1 hd
    have hxy : x = y := by
      rcases List.mem_cons.1 (hp.mem_iff.2 (List.mem_cons_self ..)) with h | hy
      · exact h.symm
      · have h1 := a1 y hy
        have h2 := d1 y hy
        rcases List.mem_cons.1 (hp.mem_iff.1 (List.mem_cons_self ..)) with h | hx
        · exact h
        · have := b1 x hx
          omega
    subst hxy
    rw [sortedT_one (List.perm_cons x |>.1 hp) d2 a2 b2]
abbrev encT (x : T3) : List Value := [.int .i64 x.1, .int .i64 x.2.1, .int .i64 x.2.2]
def cellsT (l : List T3) : List Value := l.flatMap encT
theorem cellsT_length (l : List T3) : (cellsT l).length = l.length * 3 := by
  induction l with
  | nil => rfl
  | cons x r ih => simp only [cellsT, List.flatMap_cons, List.length_append, List.length_cons, List.length_nil] at *; omega
theorem cellsT_get : ∀ (l : List T3) (t : Nat), t < l.length * 3 → (cellsT l)[t]! = (encT l[t / 3]!)[t % 3]!
  | [], t, h => by simp at h
  | x :: r, t, h => by
    match t with
    | 0 => rfl
    | 1 => rfl
    | 2 => rfl
    | t + 3 =>
      have := cellsT_get r t (by simp at h; omega)
      have e1 : (t + 3) / 3 = t / 3 + 1 := by omega
      have e2 : (t + 3) % 3 = t % 3 := by omega
      rw [e1, e2]
      show (encT x ++ cellsT r)[t + 3]! = _
      simpa using this
theorem flatT_cells (l : List T3) : (flatK encT 3 l.toArray).toList = cellsT l := by
  apply List.ext_getElem
  · rw [cellsT_length]; simp [flatK]
  · intro t h1 h2
    have ht : t < l.length * 3 := by rw [cellsT_length] at h2; exact h2
    have a := cellsT_get l t ht
    rw [getElem!_pos (cellsT l) t h2] at a
    rw [a]
    simp [flatK]
def cmpT (x y : T3) : Int := Lib.compareInt x.1 y.1
theorem ltOf_cmpT (x y : T3) : ltOf cmpT x y = decide (x.1 < y.1) := by
  unfold ltOf cmpT Lib.compareInt
  rcases Int.lt_trichotomy x.1 y.1 with h | h | h
  · simp [h]
  · simp [h]
  · have h1 : ¬ x.1 < y.1 := by omega
    have h2 : ¬ x.1 = y.1 := by omega
    simp [h, h1, h2]
theorem swoT : SWO (ltOf cmpT) where
  irrefl x := by rw [ltOf_cmpT]; simp
  trans x y z h1 h2 := by rw [ltOf_cmpT] at *; simp only [decide_eq_true_eq] at *; omega
  ntrans x y z h1 h2 := by rw [ltOf_cmpT] at *; simp only [decide_eq_false_iff_not] at *; omega
set_option maxRecDepth 100000 in
set_option maxHeartbeats 1000000 in
theorem cmpT_in (x y : T3) (W : World) : Calls Tryz.prog 33 #[.agg #[.int .i64 x.1, .int .i64 x.2.1, .int .i64 x.2.2], .agg #[.int .i64 y.1, .int .i64 y.2.1, .int .i64 y.2.2]] W fun e w' => e = .returned (.int .i64 (cmpT x y)) ∧ ∃ q os', w' = grow (W.drewN q) os' := by
  unfold cmpT
  have c1 := fun W' => compare_int x.1 y.1 W'
  generalize Lib.compareInt x.1 y.1 = r1 at *
  go_enter Tryz.func33, Tryz.ntmps33
  go_wp2_with (go_at_call 34; refine (c1 _).mono ?_; rintro e w' ⟨rfl, hw⟩; rw [hw])
  all_goals (go_ret; refine ⟨rfl, 0, _, by rw [alloc_eq_grow, alloc_eq_grow, grow_grow]; rfl⟩)
theorem cmpLaysT (blk off size : Nat) (w : World) : CmpLays Tryz.prog 33 #[] encT 3 cmpT blk off size w := fun _ _ _ _ x y => cmpT_in x y _
theorem isAggT : ∀ w, (isAgg 69).run Tryz.prog w = .ok true w := fun w => by kernel_rfl
theorem sizeOfT : ∀ w, (Go.sizeOf 69).run Tryz.prog w = .ok 3 w := fun w => by kernel_rfl
theorem sortT_own (w : World) (g cap : Nat) (cur : Array Value) (zs : List T3) (hg : w.heap[g]? = some (.cells cur 69 (0, 0))) (hcap : zs.length ≤ cap) (hm : cap ≤ maxLen) (hcur : cur.size = cap * 3) (hx : cur.toList.take (zs.length * 3) = cellsT zs) (hz : zs.length < 1000001) (hd : DistT zs) :
    Calls Tryz.prog 32 #[.slice (some ⟨g, 0, none⟩) zs.length cap, .func (.func 33) #[] #[]] w fun e w' => e = .returned (.tuple #[]) ∧ w'.ownsRow 0 69 3 (.slice (some ⟨g, 0, none⟩) zs.length cap) zs.length (cellsT (sortT zs)) ∧ w'.tape = w.tape ∧ w'.os = w.os ∧ w'.output = w.output ∧ w.heap.size ≤ w'.heap.size ∧ ∀ k, k < w.heap.size → k ≠ g → w'.heap[k]? = w.heap[k]? := by
  have hlt : g < w.heap.size := (Array.getElem?_eq_some_iff.1 hg).1
  have hsz : (flatK encT 3 zs.toArray).size = zs.length * 3 := by simp
  have hH : HoldsK encT 3 w g 0 zs.toArray := fun j hj => by
    rw [hsz] at hj
    have hjc : j < cur.size := by omega
    have e1 : cur[j]? = some ((flatK encT 3 zs.toArray)[j]!) := by
      have a : cur.toList[j]? = (cellsT zs)[j]? := by rw [← hx, List.getElem?_take, if_pos hj]
      rw [← flatT_cells] at a
      rw [← Array.getElem?_toList, a, Array.getElem?_toList]
      have : j < (flatK encT 3 zs.toArray).size := by rw [hsz]; exact hj
      rw [getElem!_pos (flatK encT 3 zs.toArray) j this, Array.getElem?_eq_getElem this]
    constructor
    · simp only [World.cell?, hg, Nat.zero_add]
      exact e1
    · simp [World.frozen?, hg]
  have h := AnyQ.slices_SortFunc Tryz.sortSt 3 isAggT sizeOfT encT (fun _ => rfl) (fun x v hv => by simp at hv; rcases hv with rfl | rfl | rfl <;> rfl) cmpT swoT 33 #[] g 0 cap zs.toArray w (enters_of Tryz.func33 (by kernel_rfl) rfl) (cmpLaysT _ _ _ w) hH hlt (by simp; omega)
  refine h.mono ?_
  rintro e w' ⟨rfl, d', n, os, hp, hs, rfl⟩
  have hd' : d' = (sortT zs).toArray := by
    obtain ⟨hsz', _, hperm⟩ := hp
    have e1 : d'.extract 0 zs.toArray.size = d' := by rw [← hsz']; exact Array.extract_size
    rw [e1, Array.extract_size] at hperm
    have hperm' : d'.toList.Perm zs := hperm
    have hsd : SortedT d'.toList := by
      unfold SortedT
      rw [List.pairwise_iff_getElem]
      intro i j hi hj hij
      have hi' : i < d'.size := by simpa using hi
      have hj' : j < d'.size := by simpa using hj
      have := hs i j (Nat.zero_le _) hij (by omega)
      rw [getElem!_pos d' j hj', getElem!_pos d' i hi', ltOf_cmpT] at this
      simp only [decide_eq_false_iff_not] at this
      simp only [Array.getElem_toList]
      omega
    have := sortedT_one (hperm'.trans (sortT_perm zs).symm) (DistT.perm hperm'.symm hd) hsd (sortT_sorted zs)
    rw [← this]
  subst hd'
  have hsz2 : (flatK encT 3 (sortT zs).toArray).size = zs.length * 3 := by simp [sortT_length]
  have hmod : ∀ k, k < w.heap.size → (sortWorldK encT 3 w g 0 n (sortT zs).toArray os).heap[k]? = if g = k then some (.cells (putCells id 0 (flatK encT 3 (sortT zs).toArray) cur) 69 (0, 0)) else w.heap[k]? := fun k hk => by
    show ((w.heap.modify g _) ++ os)[k]? = _
    rw [Array.getElem?_append_left (by simpa using hk), Array.getElem?_modify]
    split
    · rename_i e; subst e; rw [hg]; rfl
    · rfl
  refine ⟨rfl, ⟨by rw [cellsT_length, sortT_length], .inr ⟨g, cap, _, rfl, Nat.zero_le _, (hmod g hlt).trans (if_pos rfl), hcap, hm, by simp [putCells, hcur], ?_⟩⟩, rfl, rfl, rfl, by simp [sortWorldK, grow, putRowK, putRow, mapBlock, ahead], fun k hk hne => (hmod k hk).trans (if_neg (Ne.symm hne))⟩
  rw [← hsz2, putCells_take _ _ (by rw [hsz2, hcur]; omega), flatT_cells]
/-! slices.Sort at numbers. -/
def insN (x : Int) : List Int → List Int
  | [] => [x]
  | y :: r => if y < x then y :: insN x r else x :: y :: r
def sortN : List Int → List Int
  | [] => []
  | x :: r => insN x (sortN r)
theorem insN_perm (x : Int) : ∀ l, (insN x l).Perm (x :: l)
  | [] => .refl _
  | y :: r => by
    unfold insN
    split
    · exact ((insN_perm x r).cons y).trans (.swap _ _ _)
    · exact .refl _
theorem sortN_perm : ∀ l, (sortN l).Perm l
  | [] => .refl _
  | x :: r => (insN_perm x _).trans ((sortN_perm r).cons x)
theorem sortN_length (l : List Int) : (sortN l).length = l.length := (sortN_perm l).length_eq
theorem insN_sorted (x : Int) : ∀ l : List Int, l.Pairwise (· ≤ ·) → (insN x l).Pairwise (· ≤ ·)
  | [], _ => by simp [insN]
  | y :: r, h => by
    obtain ⟨h1, h2⟩ := List.pairwise_cons.1 h
    unfold insN
    split
    · rename_i hlt
      refine List.pairwise_cons.2 ⟨fun b hb => ?_, insN_sorted x r h2⟩
      rcases List.mem_cons.1 ((insN_perm x r).mem_iff.1 hb) with rfl | hb
      · omega
      · exact h1 b hb
    · rename_i hlt
      refine List.pairwise_cons.2 ⟨fun b hb => ?_, h⟩
      rcases List.mem_cons.1 hb with rfl | hb
      · omega
      · have := h1 b hb
        omega
theorem sortN_sorted : ∀ l, (sortN l).Pairwise (· ≤ ·)
  | [] => .nil
  | x :: r => insN_sorted x _ (sortN_sorted r)
theorem merge_sortN (l : List Int) : (l.mergeSort fun x y => decide (x ≤ y)) = sortN l := by
  refine List.Perm.eq_of_pairwise (le := fun x y => decide (x ≤ y) = true) ?_ ?_ ?_ ((List.mergeSort_perm _ _).trans (sortN_perm l).symm)
  · intro a b _ _ h1 h2
    simp only [decide_eq_true_eq] at h1 h2
    omega
  · refine List.pairwise_mergeSort ?_ ?_ _
    · intro a b c h1 h2
      simp only [decide_eq_true_eq] at h1 h2 ⊢
      omega
    · intro a b
      simp only [Bool.or_eq_true, decide_eq_true_eq]
      omega
  · exact (sortN_sorted l).imp fun h => by simpa using h
def cellsI (l : List Int) : List Value := l.map (.int .i64)
theorem putI_take (l : List Int) (cur : Array Value) (h : l.length ≤ cur.size) : (putCells (Value.int .i64) 0 l.toArray cur).toList.take l.length = cellsI l := by
  apply List.ext_getElem
  · simp [putCells, cellsI]; omega
  · intro t h1 h2
    have ht : t < l.length := by simpa [cellsI] using h2
    simp [putCells, cellsI, ht]
theorem sortI_own (w : World) (g cap : Nat) (cur : Array Value) (zs : List Int) (hg : w.heap[g]? = some (.cells cur 3 (0, 0))) (hcap : zs.length ≤ cap) (hm : cap ≤ maxLen) (hcur : cur.size = cap * 1) (hx : cur.toList.take (zs.length * 1) = cellsI zs) (hz : zs.length < 1000001) :
    Calls Tryz.prog 48 #[.slice (some ⟨g, 0, none⟩) zs.length cap] w fun e w' => e = .returned (.tuple #[]) ∧ w'.ownsRow 0 3 1 (.slice (some ⟨g, 0, none⟩) zs.length cap) zs.length (cellsI (sortN zs)) ∧ w'.tape = w.tape ∧ w'.os = w.os ∧ w'.output = w.output ∧ w.heap.size ≤ w'.heap.size ∧ ∀ k, k < w.heap.size → k ≠ g → w'.heap[k]? = w.heap[k]? := by
  have hlt : g < w.heap.size := (Array.getElem?_eq_some_iff.1 hg).1
  have hH : Holds (Value.int .i64) w g 0 zs.toArray := fun j hj => by
    have hj' : j < zs.length := by simpa using hj
    have hjc : j < cur.size := by omega
    have e1 : cur[j]? = some (Value.int .i64 zs.toArray[j]!) := by
      have a : cur.toList[j]? = (cellsI zs)[j]? := by rw [← hx, List.getElem?_take, if_pos (by omega)]
      rw [← Array.getElem?_toList, a]
      simp [cellsI, hj', List.getElem?_eq_getElem hj']
    constructor
    · simp only [World.cell?, hg, Nat.zero_add]
      exact e1
    · simp [World.frozen?, hg]
  have h := Any.slices_Sort_int Tryz.sortI g 0 cap zs w hH hlt (by omega)
  refine h.mono ?_
  rintro e w' ⟨rfl, n, os, rfl⟩
  rw [merge_sortN]
  have hmod : ∀ k, k < w.heap.size → (grow (putRow (Value.int .i64) (Sort.ahead w n) g 0 (sortN zs).toArray) os).heap[k]? = if g = k then some (.cells (putCells (Value.int .i64) 0 (sortN zs).toArray cur) 3 (0, 0)) else w.heap[k]? := fun k hk => by
    show ((w.heap.modify g _) ++ os)[k]? = _
    rw [Array.getElem?_append_left (by simpa using hk), Array.getElem?_modify]
    split
    · rename_i e; subst e; rw [hg]; rfl
    · rfl
  refine ⟨rfl, ⟨by simp [cellsI, sortN_length], .inr ⟨g, cap, _, rfl, Nat.zero_le _, (hmod g hlt).trans (if_pos rfl), hcap, hm, by simp [putCells, hcur], ?_⟩⟩, rfl, rfl, rfl, by simp [grow, putRow, mapBlock, ahead], fun k hk hne => (hmod k hk).trans (if_neg (Ne.symm hne))⟩
  have := putI_take (sortN zs) cur (by rw [sortN_length, hcur]; omega)
  rw [sortN_length] at this
  rw [Nat.mul_one]
  exact this
/-! slices.Compact at numbers. -/
theorem compact_len (l : List Int) : (Lib.compact l).length ≤ l.length := by
  unfold Lib.compact Lib.compactUpTo
  rw [List.length_map]
  exact Nat.le_trans (List.length_filter_le _ _) (by simp)
theorem keeps_iff (l : List Int) (j : Nat) (hj : j < l.length) : Lib.keeps l.toArray j = true ↔ j = 0 ∨ l.getD j 0 ≠ l.getD (j - 1) 0 := by
  have e1 : l.toArray[j]! = l.getD j 0 := by simp [hj, List.getElem?_eq_getElem hj]
  have e2 : l.toArray[j - 1]! = l.getD (j - 1) 0 := by
    have : j - 1 < l.length := by omega
    simp [this, List.getElem?_eq_getElem this]
  unfold Lib.keeps
  rw [e1, e2, decide_eq_true_eq]
theorem getD_mono {l : List Int} (h : l.Pairwise (· ≤ ·)) {i j : Nat} (hij : i ≤ j) (hj : j < l.length) : l.getD i 0 ≤ l.getD j 0 := by
  have hi : i < l.length := by omega
  simp only [List.getD_eq_getElem?_getD, List.getElem?_eq_getElem hi, List.getElem?_eq_getElem hj, Option.getD_some]
  rcases Nat.lt_or_eq_of_le hij with k | k
  · exact List.pairwise_iff_getElem.1 h i j hi hj k
  · subst k; exact Int.le_refl _
theorem compact_mem {l : List Int} {v : Int} : v ∈ Lib.compact l ↔ v ∈ l := by
  unfold Lib.compact Lib.compactUpTo
  rw [List.mem_map]
  constructor
  · rintro ⟨j, hj, rfl⟩
    have hj' : j < l.length := by simpa using (List.mem_filter.1 hj).1
    simp [hj']
  · intro h
    -- the first place that holds it
    have ex : ∃ n, n < l.length ∧ l.getD n 0 = v := by
      obtain ⟨n, hn, e⟩ := List.getElem_of_mem h
      exact ⟨n, hn, by simp [List.getElem?_eq_getElem hn, e]⟩
    have least : ∀ n, n < l.length → l.getD n 0 = v → ∃ m, m < l.length ∧ l.getD m 0 = v ∧ ∀ i, i < m → l.getD i 0 ≠ v := by
      intro n
      induction n using Nat.strongRecOn with
      | ind n ih =>
        intro hn he
        by_cases h' : ∃ i, i < n ∧ l.getD i 0 = v
        · obtain ⟨i, hi, e⟩ := h'
          exact ih i hi (by omega) e
        · exact ⟨n, hn, he, fun i hi e => h' ⟨i, hi, e⟩⟩
    obtain ⟨n, hn, he⟩ := ex
    obtain ⟨m, hm, he, hl⟩ := least n hn he
    refine ⟨m, List.mem_filter.2 ⟨by simpa using hm, (keeps_iff l m hm).2 ?_⟩, ?_⟩
    · by_cases h0 : m = 0
      · exact .inl h0
      · right
        rw [he]
        exact Ne.symm (hl (m - 1) (by omega))
    · rw [← he]
      simp [hm, List.getElem?_eq_getElem hm]
theorem compact_up {l : List Int} (h : l.Pairwise (· ≤ ·)) : (Lib.compact l).Pairwise (· < ·) := by
  unfold Lib.compact Lib.compactUpTo
  rw [List.pairwise_map]
  have hr : (List.range l.length).Pairwise (· < ·) := List.pairwise_lt_range
  have hf := hr.filter (Lib.keeps l.toArray)
  refine hf.imp_of_mem fun {i j} hi hj hij => ?_
  have hj1 : j < l.length := by simpa using (List.mem_filter.1 hj).1
  have hi1 : i < l.length := by omega
  have hk := (keeps_iff l j hj1).1 (List.mem_filter.1 hj).2
  have e1 : l.toArray[i]! = l.getD i 0 := by simp [hi1, List.getElem?_eq_getElem hi1]
  have e2 : l.toArray[j]! = l.getD j 0 := by simp [hj1, List.getElem?_eq_getElem hj1]
  rw [e1, e2]
  have m1 := getD_mono h (i := i) (j := j - 1) (by omega) (by omega)
  have m2 := getD_mono h (i := j - 1) (j := j) (by omega) hj1
  rcases hk with hk | hk
  · omega
  · omega
theorem compI_own (w : World) (g cap : Nat) (cur : Array Value) (zs : List Int) (hg : w.heap[g]? = some (.cells cur 3 (0, 0))) (hcap : zs.length ≤ cap) (hm : cap ≤ maxLen) (hcur : cur.size = cap * 1) (hx : cur.toList.take (zs.length * 1) = cellsI zs) (hz : zs.length < 1000001) :
    Calls Tryz.prog 49 #[.slice (some ⟨g, 0, none⟩) zs.length cap] w fun e w' => e = .returned (.slice (some ⟨g, 0, none⟩) (Lib.compact zs).length cap) ∧ w'.ownsRow 0 3 1 (.slice (some ⟨g, 0, none⟩) zs.length cap) zs.length (cellsI (Lib.compact zs ++ List.replicate (zs.length - (Lib.compact zs).length) 0)) ∧ w'.tape = w.tape ∧ w'.os = w.os ∧ w'.output = w.output ∧ w.heap.size ≤ w'.heap.size ∧ ∀ k, k < w.heap.size → k ≠ g → w'.heap[k]? = w.heap[k]? := by
  have hlt : g < w.heap.size := (Array.getElem?_eq_some_iff.1 hg).1
  have hH : Holds (Value.int .i64) w g 0 zs.toArray := fun j hj => by
    have hj' : j < zs.length := by simpa using hj
    have hjc : j < cur.size := by omega
    have e1 : cur[j]? = some (Value.int .i64 zs.toArray[j]!) := by
      have a : cur.toList[j]? = (cellsI zs)[j]? := by rw [← hx, List.getElem?_take, if_pos (by omega)]
      rw [← Array.getElem?_toList, a]
      simp [cellsI, hj', List.getElem?_eq_getElem hj']
    constructor
    · simp only [World.cell?, hg, Nat.zero_add]
      exact e1
    · simp [World.frozen?, hg]
  have h := Any.slices_Compact_int Tryz.compI g 0 cap zs w hH (by omega) hcap
  refine h.mono ?_
  rintro e w' ⟨rfl, n, rfl⟩
  have hll := compact_len zs
  generalize hL : Lib.compact zs ++ List.replicate (zs.length - (Lib.compact zs).length) 0 = L
  have hLl : L.length = zs.length := by rw [← hL]; simp; omega
  have hmod : ∀ k, k < w.heap.size → (putRow (Value.int .i64) (Sort.ahead w n) g 0 L.toArray).heap[k]? = if g = k then some (.cells (putCells (Value.int .i64) 0 L.toArray cur) 3 (0, 0)) else w.heap[k]? := fun k hk => by
    show (w.heap.modify g _)[k]? = _
    rw [Array.getElem?_modify]
    split
    · rename_i e; subst e; rw [hg]; rfl
    · rfl
  refine ⟨rfl, ⟨by simp [cellsI, hLl], .inr ⟨g, cap, _, rfl, Nat.zero_le _, (hmod g hlt).trans (if_pos rfl), hcap, hm, by simp [putCells, hcur], ?_⟩⟩, rfl, rfl, rfl, by simp [putRow, mapBlock, ahead], fun k hk hne => (hmod k hk).trans (if_neg (Ne.symm hne))⟩
  have := putI_take L cur (by rw [hLl, hcur]; omega)
  rw [hLl] at this
  rw [Nat.mul_one]
  exact this
end Go.Proofs.Rg
