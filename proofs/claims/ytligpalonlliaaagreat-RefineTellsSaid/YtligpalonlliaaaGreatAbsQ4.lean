/- A part of a proof: the text that states the row tells what is proved. No condition is laid on anything. -/
import Derived.Shelf.SlSortCmp.NoneTotal
import Derived.Test.YtligpalonlliaaaGreatAbsQ1
import Derived.Test.YtligpalonlliaaaGreatAbsQ2
import Derived.Test.YtligpalonlliaaaGreatAbsQ3
set_option linter.all false
set_option linter.constructorNameAsVariable false
set_option linter.defProp false
set_option linter.unusedVariables false
set_option linter.unusedSimpArgs false
namespace Go.Proofs.Rg
open Go Go.Proofs Go.RowKit Go.Sort Go.Shelf
/-! A list of ranges in order. -/
def insZ (x : Int × Int) : List (Int × Int) → List (Int × Int)
  | [] => [x]
  | y :: r => if ltZ y x then y :: insZ x r else x :: y :: r
def sortZ : List (Int × Int) → List (Int × Int)
  | [] => []
  | x :: r => insZ x (sortZ r)
theorem insZ_perm (x : Int × Int) : ∀ l, (insZ x l).Perm (x :: l)
  | [] => .refl _
  | y :: r => by
    unfold insZ
    split
    · exact ((insZ_perm x r).cons y).trans (.swap _ _ _)
    · exact .refl _
theorem sortZ_perm : ∀ l, (sortZ l).Perm l
  | [] => .refl _
  | x :: r => (insZ_perm x _).trans ((sortZ_perm r).cons x)
theorem sortZ_length (l : List (Int × Int)) : (sortZ l).length = l.length := (sortZ_perm l).length_eq
/-- No later one is less. -/
def SortedZ (l : List (Int × Int)) : Prop := l.Pairwise fun a b => ltZ b a = false
theorem ltZ_iff {x y : Int × Int} : ltZ x y = true ↔ x.1 < y.1 ∨ (x.1 = y.1 ∧ x.2 < y.2) := by simp [ltZ]
theorem ltZ_not {x y : Int × Int} : ltZ x y = false ↔ ¬ (x.1 < y.1 ∨ (x.1 = y.1 ∧ x.2 < y.2)) := by simp [ltZ]
theorem insZ_sorted (x : Int × Int) : ∀ l, SortedZ l → SortedZ (insZ x l)
  | [], _ => by simp [insZ, SortedZ]
  | y :: r, h => by
    obtain ⟨h1, h2⟩ := List.pairwise_cons.1 h
    unfold insZ
    split
    · rename_i hlt
      refine List.pairwise_cons.2 ⟨fun b hb => ?_, insZ_sorted x r h2⟩
      rcases List.mem_cons.1 ((insZ_perm x r).mem_iff.1 hb) with rfl | hb
      · rw [ltZ_iff] at hlt; rw [ltZ_not]; omega
      · exact h1 b hb
    · rename_i hlt
      have hlt' : ltZ y x = false := by simpa using hlt
      refine List.pairwise_cons.2 ⟨fun b hb => ?_, h⟩
      rcases List.mem_cons.1 hb with rfl | hb
      · exact hlt'
      · have := h1 b hb
        rw [ltZ_not] at this hlt' ⊢; omega
theorem sortZ_sorted : ∀ l, SortedZ (sortZ l)
  | [] => .nil
  | x :: r => insZ_sorted x _ (sortZ_sorted r)
theorem sorted_one : ∀ {a b : List (Int × Int)}, a.Perm b → SortedZ a → SortedZ b → a = b
  | [], b, hp, _, _ => by simpa using hp.symm.eq_nil.symm
  | x :: r, [], hp, _, _ => absurd hp.eq_nil (by simp)
  | x :: r, y :: s, hp, ha, hb => by
    obtain ⟨a1, a2⟩ := List.pairwise_cons.1 ha
    obtain ⟨b1, b2⟩ := List.pairwise_cons.1 hb
    have hxy : x = y := by
      rcases List.mem_cons.1 (hp.mem_iff.1 (List.mem_cons_self ..)) with h | hx
      · exact h
      rcases List.mem_cons.1 (hp.mem_iff.2 (List.mem_cons_self ..)) with h | hy
      · exact h.symm
      have h1 := a1 y hy
      have h2 := b1 x hx
      rw [ltZ_not] at h1 h2
      exact Prod.ext (by omega) (by omega)
    subst hxy
    rw [sorted_one (List.perm_cons x |>.1 hp) a2 b2]
theorem merge_sortZ (l : List (Int × Int)) : l.mergeSort (fun x y => !(ltOf ordZ) y x) = sortZ l := by
  have tr : ∀ a b c : Int × Int, (!(ltOf ordZ) b a) = true → (!(ltOf ordZ) c b) = true → (!(ltOf ordZ) c a) = true := fun a b c h1 h2 => by
    simp only [ltOf_ordZ, Bool.not_eq_true'] at *
    rw [ltZ_not] at *; omega
  have to : ∀ a b : Int × Int, ((!(ltOf ordZ) b a) || (!(ltOf ordZ) a b)) = true := fun a b => by
    simp only [ltOf_ordZ, Bool.or_eq_true, Bool.not_eq_true']
    by_cases h : ltZ b a = false
    · exact .inl h
    · right
      have h : ltZ b a = true := by simpa using h
      rw [ltZ_iff] at h; rw [ltZ_not]; omega
  refine sorted_one ((List.mergeSort_perm l _).trans (sortZ_perm l).symm) ?_ (sortZ_sorted l)
  have := List.pairwise_mergeSort (le := fun x y => !(ltOf ordZ) y x) tr to l
  exact this.imp fun h => by simpa [ltOf_ordZ] using h
/-! The cells. -/
theorem cellsR_length (l : List (Int × Int)) : (cellsR l).length = l.length * 2 := by
  induction l with
  | nil => rfl
  | cons x r ih => simp only [cellsR, List.flatMap_cons, List.length_append, List.length_cons, List.length_nil] at *; omega
theorem cellsR_get : ∀ (l : List (Int × Int)) (t : Nat), t < l.length * 2 → (cellsR l)[t]! = (encL l[t / 2]!)[t % 2]!
  | [], t, h => by simp at h
  | x :: r, t, h => by
    match t with
    | 0 => rfl
    | 1 => rfl
    | t + 2 =>
      have := cellsR_get r t (by simp at h; omega)
      have e1 : (t + 2) / 2 = t / 2 + 1 := by omega
      have e2 : (t + 2) % 2 = t % 2 := by omega
      rw [e1, e2]
      show (encL x ++ cellsR r)[t + 2]! = _
      simpa using this
theorem flatK_cells (l : List (Int × Int)) : (flatK encL 2 l.toArray).toList = cellsR l := by
  apply List.ext_getElem
  · rw [cellsR_length]; simp [flatK]
  · intro t h1 h2
    have ht : t < l.length * 2 := by rw [cellsR_length] at h2; exact h2
    have a := cellsR_get l t ht
    rw [getElem!_pos (cellsR l) t h2] at a
    rw [a]
    simp [flatK]
theorem putCells_take (F cur : Array Value) (h : F.size ≤ cur.size) : (putCells id 0 F cur).toList.take F.size = F.toList := by
  apply List.ext_getElem
  · simp [putCells]; omega
  · intro t h1 h2
    have ht : t < F.size := by simpa using h2
    simp [putCells, ht]
theorem isAgg70 : ∀ w, (isAgg 55).run Tryz.prog w = .ok true w := fun w => by kernel_rfl
theorem sizeOf70 : ∀ w, (Go.sizeOf 55).run Tryz.prog w = .ok 2 w := fun w => by kernel_rfl
theorem sort_nil (w : World) : Calls Tryz.prog 68 #[.slice none 0 0, .func (.func 53) #[] #[]] w fun e w' => e = .returned (.tuple #[]) ∧ w' = w :=
  AnyF.slices_SortFunc_none Tryz.sortRg none 0 _ w
theorem sort_own (w : World) (base g cap : Nat) (cur : Array Value) (zs : List (Int × Int)) (hg : w.heap[g]? = some (.cells cur 55 (0, 0))) (hcap : zs.length ≤ cap) (hm : cap ≤ maxLen) (hcur : cur.size = cap * 2) (hb : base ≤ g) (hx : cur.toList.take (zs.length * 2) = cellsR zs) (hz : zs.length < 1000001) :
    Calls Tryz.prog 68 #[.slice (some ⟨g, 0, none⟩) zs.length cap, .func (.func 53) #[] #[]] w fun e w' => e = .returned (.tuple #[]) ∧ w'.ownsRow base 55 2 (.slice (some ⟨g, 0, none⟩) zs.length cap) zs.length (cellsR (sortZ zs)) ∧ w'.tape = w.tape ∧ w'.os = w.os ∧ w'.output = w.output ∧ w.heap.size ≤ w'.heap.size ∧ ∀ k, k < w.heap.size → k ≠ g → w'.heap[k]? = w.heap[k]? := by
  have hlt : g < w.heap.size := (Array.getElem?_eq_some_iff.1 hg).1
  have hsz : (flatK encL 2 zs.toArray).size = zs.length * 2 := by simp
  have hH : HoldsK encL 2 w g 0 zs.toArray := fun j hj => by
    rw [hsz] at hj
    have hjc : j < cur.size := by omega
    have e1 : cur[j]? = some ((flatK encL 2 zs.toArray)[j]!) := by
      have a : cur.toList[j]? = (cellsR zs)[j]? := by rw [← hx, List.getElem?_take, if_pos hj]
      rw [← flatK_cells] at a
      rw [← Array.getElem?_toList, a, Array.getElem?_toList]
      have : j < (flatK encL 2 zs.toArray).size := by rw [hsz]; exact hj
      rw [getElem!_pos (flatK encL 2 zs.toArray) j this, Array.getElem?_eq_getElem this]
    constructor
    · simp only [World.cell?, hg, Nat.zero_add]
      exact e1
    · simp [World.frozen?, hg]
  have h := AnyQ.slices_SortFunc_total Tryz.sortRg 2 isAgg70 sizeOf70 encL (fun _ => rfl) (fun x v hv => by simp at hv; rcases hv with rfl | rfl <;> rfl) ordZ swoZ 53 #[] g 0 cap zs.toArray w (enters_of Tryz.func53 (by kernel_rfl) rfl) (cmpLays87 _ _ _ w) hH hlt (by simp; omega)
    (fun x y h1 h2 => by rw [ltOf_ordZ, ltZ_not] at h1 h2; exact Prod.ext (by omega) (by omega))
  refine h.mono ?_
  rintro e w' ⟨rfl, n, os, rfl⟩
  rw [show zs.toArray.toList = zs from rfl, merge_sortZ]
  have hsz2 : (flatK encL 2 (sortZ zs).toArray).size = zs.length * 2 := by simp [sortZ_length]
  have hmod : ∀ k, k < w.heap.size → (sortWorldK encL 2 w g 0 n (sortZ zs).toArray os).heap[k]? = if g = k then some (.cells (putCells id 0 (flatK encL 2 (sortZ zs).toArray) cur) 55 (0, 0)) else w.heap[k]? := fun k hk => by
    show ((w.heap.modify g _) ++ os)[k]? = _
    rw [Array.getElem?_append_left (by simpa using hk), Array.getElem?_modify]
    split
    · rename_i e; subst e; rw [hg]; rfl
    · rfl
  refine ⟨rfl, ⟨by rw [cellsR_length, sortZ_length], .inr ⟨g, cap, _, rfl, hb, (hmod g hlt).trans (if_pos rfl), hcap, hm, by simp [putCells, hcur], ?_⟩⟩, rfl, rfl, rfl, by simp [sortWorldK, grow, putRowK, putRow, mapBlock, ahead], fun k hk hne => (hmod k hk).trans (if_neg (Ne.symm hne))⟩
  rw [← hsz2, putCells_take _ _ (by rw [hsz2, hcur]; omega), flatK_cells]
/-! slices.Collect, slices.SortedFunc. -/
set_option maxRecDepth 100000 in
set_option maxHeartbeats 1000000 in
theorem collect_in (F : Fence) (n : Nat) (h113 : F.fn 67) (h130 : F.fn 91) (h115 : F.fn 69) (hro : F.round = none) (hn : 4 ≤ n) (Bs : Nat) (sv : Value) (zs : List (Int × Int)) (hlen : zs.length ≤ 1000000) (w : World) (hBs : Bs < w.heap.size)
    (hc : w.cell? ⟨Bs, 0, none⟩ = some sv) (hI : Rgs w.heap.size w sv zs) :
    CallsIn F n Tryz.prog 67 #[.func (.func 69) #[] #[.pointer (some ⟨Bs, 0, none⟩)]] w fun e W' => ∃ v, e = .returned v ∧ W'.ownsRow w.heap.size 55 2 v zs.length (cellsR zs) ∧ Below w.heap.size w W' := by
  have h1 : 1 ≤ n := by omega
  refine callsIn_of_wp Tryz.func67 rfl h113 ?_ hro
  simp only [Tryz.ntmps67, List.size_toArray, List.length_cons, List.length_nil, Nat.reduceAdd, Nat.reduceSub, Array.replicate_succ, Array.replicate_zero, List.push_toArray, List.append_toArray, List.nil_append, List.cons_append]
  gi_wp2_with (gi_at_call 91; refine (appendSeq_in F (n - 1) h130 h115 hro (by omega) Bs sv zs hlen _ hBs hc hI).mono ?_; rintro e w' ⟨v, rfl, hrow, hb⟩)
  go_ret
  exact ⟨v, rfl, hrow, hb⟩
def allF : Fence := { fn := fun _ => True }
theorem collect (Bs : Nat) (sv : Value) (zs : List (Int × Int)) (hlen : zs.length ≤ 1000000) (w : World) (hBs : Bs < w.heap.size)
    (hc : w.cell? ⟨Bs, 0, none⟩ = some sv) (hI : Rgs w.heap.size w sv zs) :
    Calls Tryz.prog 67 #[.func (.func 69) #[] #[.pointer (some ⟨Bs, 0, none⟩)]] w fun e W' => ∃ v, e = .returned v ∧ W'.ownsRow w.heap.size 55 2 v zs.length (cellsR zs) ∧ Below w.heap.size w W' :=
  (collect_in allF 4 trivial trivial trivial rfl (Nat.le_refl _) Bs sv zs hlen w hBs hc hI).calls fun k d hd => by cases hd
set_option maxRecDepth 100000 in
set_option maxHeartbeats 1000000 in
theorem sortedFunc (Bs : Nat) (sv : Value) (zs : List (Int × Int)) (hlen : zs.length ≤ 1000000) (w : World) (hBs : Bs < w.heap.size)
    (hc : w.cell? ⟨Bs, 0, none⟩ = some sv) (hI : Rgs w.heap.size w sv zs) :
    Calls Tryz.prog 51 #[.func (.func 69) #[] #[.pointer (some ⟨Bs, 0, none⟩)], .func (.func 53) #[] #[]] w fun e W' => ∃ v, e = .returned v ∧ W'.ownsRow w.heap.size 55 2 v zs.length (cellsR (sortZ zs)) ∧ Below w.heap.size w W' := by
  have hcol := collect Bs sv zs hlen w hBs hc hI
  have hsort : ∀ W v, W.ownsRow w.heap.size 55 2 v zs.length (cellsR zs) → Below w.heap.size w W → Calls Tryz.prog 68 #[v, .func (.func 53) #[] #[]] W fun e W' => e = .returned (.tuple #[]) ∧ (W'.ownsRow w.heap.size 55 2 v zs.length (cellsR (sortZ zs)) ∧ Below w.heap.size w W') := by
    intro W v hrow hb
    rcases hrow.2 with ⟨rfl, h0⟩ | ⟨g, cap, cur, rfl, hbg, hg, hcap, hm, hcur, hx⟩
    · have : zs = [] := List.eq_nil_of_length_eq_zero h0
      subst this
      exact (sort_nil W).mono fun e W' ⟨he, hw⟩ => ⟨he, by rw [hw]; exact hrow, by rw [hw]; exact hb⟩
    · refine (sort_own W w.heap.size g cap cur zs hg hcap hm hcur hbg hx (by omega)).mono ?_
      rintro e W' ⟨rfl, hrow', ht, ho, hou, hs, hk⟩
      exact ⟨rfl, hrow', ho.trans hb.os, ht.trans hb.tape, hou.trans hb.output, Nat.le_trans hb.size hs, fun k hk' => (hk k (Nat.lt_of_lt_of_le hk' hb.size) (by omega)).trans (hb.block k hk')⟩
  clear hc hI
  go_enter Tryz.func51, Tryz.ntmps51
  go_wp2_with (first | (go_at_call 67; refine hcol.mono ?_; rintro e w' ⟨v, rfl, hrow, hb⟩) | (go_at_call 68; refine (hsort _ _ hrow hb).mono ?_; rintro e w'' ⟨rfl, hrow', hb'⟩))
  go_ret
  exact ⟨v, rfl, hrow', hb'⟩
end Go.Proofs.Rg
