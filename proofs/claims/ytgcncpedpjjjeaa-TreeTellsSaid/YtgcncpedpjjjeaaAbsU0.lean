/- A part of a proof: the text that states the row tells what is proved. No condition is laid on anything. -/
import Derived.Test.YtgcncpedpjjjeaaAbsF9
set_option linter.all false
set_option linter.constructorNameAsVariable false
set_option linter.defProp false
set_option linter.unusedVariables false
set_option linter.unusedSimpArgs false
set_option maxRecDepth 100000
set_option maxHeartbeats 1000000
namespace Go.Proofs.Abs
open Go
/-! ### The table that caesuraref11.Ends fills -/
/-- A node takes a row from a place to one that is not ahead of it. -/
def Ek (t : List Nd) (l : List Int) (k i j : Nat) : Bool := decide (i ≤ j) && tk t l k i j
def brow (N : Nat) (f : Nat → Bool) : List (List AV) := (List.range N).map fun j => [AV.bool (f j)]
theorem brow_len (N : Nat) (f : Nat → Bool) : (brow N f).length = N := by simp [brow]
theorem brow_get {N j : Nat} (f : Nat → Bool) (h : j < N) : (brow N f)[j]? = some [AV.bool (f j)] := by simp [brow, h]
def fupd (f : Nat → Bool) (j : Nat) (v : Bool) : Nat → Bool := fun i => if i = j then v else f i
theorem brow_set (N : Nat) (f : Nat → Bool) (j : Nat) (v : Bool) : (brow N f).set j [AV.bool v] = brow N (fupd f j v) := by
  refine List.ext_getElem (by simp [brow]) fun i h1 h2 => ?_
  simp only [brow, List.getElem_set, List.getElem_map, List.getElem_range, fupd]
  by_cases h : j = i
  · subst h; simp
  · rw [if_neg h, if_neg (Ne.symm h)]
theorem brow_rep (N : Nat) : List.replicate N [AV.bool false] = brow N (fun _ => false) := by
  refine List.ext_getElem (by simp [brow]) fun i h1 h2 => ?_
  simp [brow]
theorem brow_congr {N : Nat} {f g : Nat → Bool} (h : ∀ j, j < N → f j = g j) : brow N f = brow N g := by
  unfold brow
  refine List.map_congr_left fun j hj => ?_
  rw [h j (List.mem_range.1 hj)]
def mrows (N : Nat) (g : Nat → Nat → Bool) : List (List AV) := (List.range N).map fun i => [AV.list 1 (brow N (g i))]
theorem mrows_get {N i : Nat} (g : Nat → Nat → Bool) (h : i < N) : (mrows N g)[i]? = some [AV.list 1 (brow N (g i))] := by simp [mrows, h]
def outR (t : List Nd) (l : List Int) (N k : Nat) : List (List AV) := (List.range k).map fun k' => [AV.list 1 (mrows N (Ek t l k'))]
theorem outR_len (t : List Nd) (l : List Int) (N k : Nat) : (outR t l N k).length = k := by simp [outR]
theorem outR_get {t : List Nd} {l : List Int} {N k a : Nat} (h : a < k) : (outR t l N k)[a]? = some [AV.list 1 (mrows N (Ek t l a))] := by simp [outR, h]
theorem outR_succ (t : List Nd) (l : List Int) (N k : Nat) : outR t l N k ++ [[AV.list 1 (mrows N (Ek t l k))]] = outR t l N (k + 1) := by
  unfold outR
  rw [List.range_succ, List.map_append]
  rfl
def Bid (k i : Nat) : Id := [7, k, 8, i, 6]
def cellsI (N k i : Nat) : List (List AV) := (List.range N).map fun i' => if i' < i then [AV.own (Bid k i') N] else [AV.list 1 []]
theorem cellsI_len (N k i : Nat) : (cellsI N k i).length = N := by simp [cellsI]
theorem cellsI_zero (N k : Nat) : List.replicate N [AV.list 1 []] = cellsI N k 0 := by
  refine List.ext_getElem (by simp [cellsI]) fun i h1 h2 => ?_
  simp [cellsI]
theorem cellsI_get {N k i : Nat} (h : i < N) : (cellsI N k i)[i]? = some [AV.list 1 []] := by simp [cellsI, h]
theorem cellsI_set (N k i : Nat) : (cellsI N k i).set i [AV.own (Bid k i) N] = cellsI N k (i + 1) := by
  refine List.ext_getElem (by simp [cellsI]) fun j h1 h2 => ?_
  simp only [cellsI, List.getElem_set, List.getElem_map, List.getElem_range]
  by_cases h : i = j
  · subst h; simp
  · rw [if_neg h]
    by_cases h2 : j < i
    · rw [if_pos h2, if_pos (by omega)]
    · rw [if_neg h2, if_neg (by omega)]
theorem cellsI_succ_get {N k i : Nat} (h : i < N) : (cellsI N k (i + 1))[i]? = some [AV.own (Bid k i) N] := by simp [cellsI, h]
theorem cellsI_all (N k : Nat) : cellsI N k N = (List.range N).map fun i' => [AV.own (Bid k i') N] := by
  unfold cellsI
  refine List.map_congr_left fun j hj => ?_
  rw [if_pos (List.mem_range.1 hj)]
theorem fget_cons (i : Id) (o : AObj) (f : Fr) (id : Id) : fget ((i, o) :: f) id = if i = id then some o else fget f id := rfl
theorem fset_none : ∀ (f : Fr) (id : Id) (x : AObj), fget f id = none → fset f id x = f
  | [], _, _, _ => rfl
  | (i, o) :: r, id, x, h => by
    rw [fget_cons] at h
    split at h
    · cases h
    · rename_i hne
      show fset ((i, o) :: r) id x = _
      simp [fset, hne, fset_none r id x h]
/-- The row objects that have been made of node k's rows. -/
def Rows (t : List Nd) (l : List Int) (N k i : Nat) (G : Fr) : Prop := ∀ i', i' < i → ∃ w fb, fget G (Bid k i') = some (.row w fb 4 1 (brow N (Ek t l k i')))
def RI (t : List Nd) (l : List Int) (N k : Nat) (F : Fr) (i : Nat) (H : Heap) : Prop := ∃ G fl, H = [G, F] ∧ fget G [7, k, 5] = some (.row true fl 86 1 (cellsI N k i)) ∧ (0 < i → fl = false) ∧ fget G [5] = none ∧ Rows t l N k i G
theorem RI.step {t : List Nd} {l : List Int} {N k i : Nat} {F G : Fr} {fl fb : Bool} {f : Nat → Bool} (h1 : fget G [7, k, 5] = some (.row true fl 86 1 (cellsI N k i))) (h3 : fget G [5] = none) (h4 : Rows t l N k i G)
    (hf : ∀ j, j < N → f j = Ek t l k i j) : RI t l N k F (i + 1) [(([7, k, 8, i, 6] : Id), AObj.row true fb 4 1 (brow N f)) :: fset G [7, k, 5] (.row true false 86 1 (cellsI N k (i + 1))), F] := by
  refine ⟨_, false, rfl, ?_, fun _ => rfl, ?_, fun i' hi' => ?_⟩
  · rw [fget_cons, if_neg (by simp), fget_fset]
    simp [h1]
  · rw [fget_cons, if_neg (by simp), fget_fset]
    simp [h3]
  · rw [fget_cons]
    by_cases e : i' = i
    · subst e
      rw [show (Bid k i') = [7, k, 8, i', 6] from rfl, if_pos rfl, brow_congr hf]
      exact ⟨true, fb, rfl⟩
    · obtain ⟨w, fb', h⟩ := h4 i' (by omega)
      refine ⟨w, fb', ?_⟩
      rw [if_neg (by unfold Bid; simp; omega), fget_fset, if_neg (by unfold Bid; simp)]
      exact h
/-! Its rows frozen. -/
theorem fzd_bool (d : Nat) (H : Heap) (b : Bool) : fzd (d + 1) H (.bool b) = some (.bool b, H) := rfl
theorem fzd_ownT {d : Nat} {H : Heap} {id : Id} {n : Nat} {w : Bool} {e z : Nat} {rows : List (List AV)} (h : hget H id = some (.row w true e z rows)) (hn : rows.length = n) : fzd (d + 1) H (.own id n) = some (.list z rows, hset H id (.row false true e z rows)) := by
  rw [fzd]
  simp only [h, hn, if_true]
theorem fzd_ownF {d : Nat} {H : Heap} {id : Id} {n : Nat} {w : Bool} {e z : Nat} {rows : List (List AV)} (h : hget H id = some (.row w false e z rows)) (hn : rows.length = n) {rows' : List (List AV)} {H' : Heap} (hr : fzd.fzrows (fzd d) (hset H id (.row false false e z rows)) rows = some (rows', H')) : fzd (d + 1) H (.own id n) = some (.list z rows', H') := by
  rw [fzd]
  simp only [h, hn, if_true, hr]
theorem fzrows_one {f : Heap → AV → Option (AV × Heap)} {H H1 H2 : Heap} {c c' : AV} {r r' : List (List AV)} (h1 : f H c = some (c', H1)) (h2 : fzd.fzrows f H1 r = some (r', H2)) : fzd.fzrows f H ([c] :: r) = some ([c'] :: r', H2) := by
  rw [fzd.fzrows]
  simp only [fzd.fzcells, h1, h2]
theorem fzrows_bools (d : Nat) (H : Heap) : ∀ (L : List Nat) (f : Nat → Bool), fzd.fzrows (fzd (d + 1)) H (L.map fun j => [AV.bool (f j)]) = some (L.map fun j => [AV.bool (f j)], H)
  | [], f => by rw [List.map_nil, fzd.fzrows]
  | x :: L, f => by
    rw [List.map_cons]
    exact fzrows_one (fzd_bool d H _) (fzrows_bools d H L f)
theorem fzrows_objs {t : List Nd} {l : List Int} {N k : Nat} {F : Fr} : ∀ (L : List Nat) (G : Fr), (∀ i ∈ L, ∃ w fb, fget G (Bid k i) = some (.row w fb 4 1 (brow N (Ek t l k i)))) → fget G [5] = none →
    ∃ G', fzd.fzrows (fzd 3) [G, F] (L.map fun i => [AV.own (Bid k i) N]) = some (L.map fun i => [AV.list 1 (brow N (Ek t l k i))], [G', F]) ∧ fget G' [5] = none
  | [], G, _, h5 => ⟨G, by rw [List.map_nil, fzd.fzrows, List.map_nil], h5⟩
  | x :: L, G, h, h5 => by
    obtain ⟨w, fb, hx⟩ := h x (by simp)
    have hg : hget [G, F] (Bid k x) = some (.row w fb 4 1 (brow N (Ek t l k x))) := by simp [hget, hx]
    have hst : ∀ o, hset [G, F] (Bid k x) o = [fset G (Bid k x) o, F] := fun o => by simp [hset, hx]
    have key : fzd 3 [G, F] (.own (Bid k x) N) = some (.list 1 (brow N (Ek t l k x)), [fset G (Bid k x) (.row false fb 4 1 (brow N (Ek t l k x))), F]) := by
      cases fb with
      | true =>
        rw [fzd_ownT hg (brow_len _ _), hst]
      | false =>
        refine fzd_ownF hg (brow_len _ _) ?_
        rw [hst]
        exact fzrows_bools 1 _ (List.range N) (Ek t l k x)
    obtain ⟨G', e3, h5'⟩ := fzrows_objs (t := t) (l := l) (N := N) (k := k) (F := F) L (fset G (Bid k x) (.row false fb 4 1 (brow N (Ek t l k x)))) (fun i hi => by
      obtain ⟨w', fb', h'⟩ := h i (by simp [hi])
      rw [fget_fset]
      by_cases e : x = i
      · subst e
        exact ⟨false, fb, by simp [hx]⟩
      · refine ⟨w', fb', ?_⟩
        rw [if_neg (by unfold Bid; simp; omega)]
        exact h') (by rw [fget_fset, if_neg (by unfold Bid; simp)]; exact h5)
    refine ⟨G', ?_, h5'⟩
    rw [List.map_cons, List.map_cons]
    exact fzrows_one key e3
theorem RI.froz {t : List Nd} {l : List Int} {N k : Nat} {F : Fr} {G : Fr} {fl : Bool} (h1 : fget G [7, k, 5] = some (.row true fl 86 1 (cellsI N k N))) (hN : 0 < N) (h2 : 0 < N → fl = false) (h3 : fget G [5] = none) (h4 : Rows t l N k N G) :
    ∃ G', fz [G, F] (.own [7, k, 5] N) = some (.list 1 (mrows N (Ek t l k)), [G', F]) ∧ fget G' [5] = none := by
  have hf := h2 hN
  subst hf
  have hg : hget [G, F] [7, k, 5] = some (.row true false 86 1 (cellsI N k N)) := by simp [hget, h1]
  have hst : ∀ o, hset [G, F] [7, k, 5] o = [fset G [7, k, 5] o, F] := fun o => by simp [hset, h1]
  obtain ⟨G', e, h5⟩ := fzrows_objs (t := t) (l := l) (N := N) (k := k) (F := F) (List.range N) (fset G [7, k, 5] (.row false false 86 1 (cellsI N k N))) (fun i hi => by
    obtain ⟨w, fb, h⟩ := h4 i (List.mem_range.1 hi)
    refine ⟨w, fb, ?_⟩
    rw [fget_fset, if_neg (by unfold Bid; simp)]
    exact h) (by rw [fget_fset, if_neg (by simp)]; exact h3)
  refine ⟨G', ?_, h5⟩
  rw [← cellsI_all] at e
  refine fzd_ownF hg (cellsI_len _ _ _) ?_
  rw [hst]
  exact e
theorem pure_outR (t : List Nd) (l : List Int) (N k : Nat) : Pure (.list 1 (outR t l N k)) = True := by
  rw [pure_list]
  refine eq_true fun r hr a ha => ?_
  obtain ⟨k', _, rfl⟩ := List.mem_map.1 hr
  simp only [List.mem_singleton] at ha
  subst ha
  rw [pure_list]
  intro r hr a ha
  obtain ⟨i, _, rfl⟩ := List.mem_map.1 hr
  simp only [List.mem_singleton] at ha
  subst ha
  rw [pure_list]
  intro r hr a ha
  obtain ⟨j, _, rfl⟩ := List.mem_map.1 hr
  simp only [List.mem_singleton] at ha
  subst ha
  exact .bool _
end Go.Proofs.Abs
