/- A part of a proof: the text that states the row tells what is proved. No condition is laid on anything. -/
import Derived.Test.YthknebhggdhhfaaGreatDoorAbsGi
import Derived.Test.YthknebhggdhhfaaGreatDoorAbsGk
import Derived.Test.YthknebhggdhhfaaGreatDoorAbsWZ
set_option linter.all false
set_option linter.constructorNameAsVariable false
set_option linter.defProp false
set_option linter.unusedVariables false
set_option linter.unusedSimpArgs false
set_option maxRecDepth 100000
set_option maxHeartbeats 1000000
namespace Go.Proofs.Abs
open Go
def Ek (t : List Nd) (l : List Int) (k i j : Nat) : Bool := decide (i ≤ j) && tk t l k i j
def brow (N : Nat) (f : Nat → Bool) : List (List AV) := (List.range N).map fun j => [AV.bool (f j)]
theorem brow_len (N : Nat) (f : Nat → Bool) : (brow N f).length = N := by simp [brow]
theorem brow_get {N j : Nat} (f : Nat → Bool) (h : j < N) : (brow N f)[j]? = some [AV.bool (f j)] := by simp [brow, h]
def fupd (f : Nat → Bool) (j : Nat) (v : Bool) : Nat → Bool := fun i => if i = j then v else f i
theorem brow_set (N : Nat) (f : Nat → Bool) (j : Nat) (v : Bool) : (brow N f).set j [AV.bool v] = brow N (fupd f j v) := by
  refine List.ext_getElem (by simp [brow]) fun i h1 h2 => ?_
  simp only [brow, List.getElem_set, List.getElem_map, List.getElem_range, fupd]
  by_cases h : j = i
  · subst h; simp
  · rw [if_neg h, if_neg (Ne.symm h)]
theorem brow_rep (N : Nat) : List.replicate N [AV.bool false] = brow N (fun _ => false) := by
  refine List.ext_getElem (by simp [brow]) fun i h1 h2 => ?_
  simp [brow]
theorem brow_congr {N : Nat} {f g : Nat → Bool} (h : ∀ j, j < N → f j = g j) : brow N f = brow N g := by
  unfold brow
  refine List.map_congr_left fun j hj => ?_
  rw [h j (List.mem_range.1 hj)]
def mrows (N : Nat) (g : Nat → Nat → Bool) : List (List AV) := (List.range N).map fun i => [AV.list 1 (brow N (g i))]
theorem mrows_get {N i : Nat} (g : Nat → Nat → Bool) (h : i < N) : (mrows N g)[i]? = some [AV.list 1 (brow N (g i))] := by simp [mrows, h]
def outR (t : List Nd) (l : List Int) (N k : Nat) : List (List AV) := (List.range k).map fun k' => [AV.list 1 (mrows N (Ek t l k'))]
theorem outR_len (t : List Nd) (l : List Int) (N k : Nat) : (outR t l N k).length = k := by simp [outR]
theorem outR_get {t : List Nd} {l : List Int} {N k a : Nat} (h : a < k) : (outR t l N k)[a]? = some [AV.list 1 (mrows N (Ek t l a))] := by simp [outR, h]
theorem outR_succ (t : List Nd) (l : List Int) (N k : Nat) : outR t l N k ++ [[AV.list 1 (mrows N (Ek t l k))]] = outR t l N (k + 1) := by
  unfold outR
  rw [List.range_succ, List.map_append]
  rfl
def Bid (k i : Nat) : Id := [7, k, 8, i, 6]
def cellsI (N k i : Nat) : List (List AV) := (List.range N).map fun i' => if i' < i then [AV.own (Bid k i') N] else [AV.list 1 []]
theorem cellsI_len (N k i : Nat) : (cellsI N k i).length = N := by simp [cellsI]
theorem cellsI_zero (N k : Nat) : List.replicate N [AV.list 1 []] = cellsI N k 0 := by
  refine List.ext_getElem (by simp [cellsI]) fun i h1 h2 => ?_
  simp [cellsI]
theorem cellsI_get {N k i : Nat} (h : i < N) : (cellsI N k i)[i]? = some [AV.list 1 []] := by simp [cellsI, h]
theorem cellsI_set (N k i : Nat) : (cellsI N k i).set i [AV.own (Bid k i) N] = cellsI N k (i + 1) := by
  refine List.ext_getElem (by simp [cellsI]) fun j h1 h2 => ?_
  simp only [cellsI, List.getElem_set, List.getElem_map, List.getElem_range]
  by_cases h : i = j
  · subst h; simp
  · rw [if_neg h]
    by_cases h2 : j < i
    · rw [if_pos h2, if_pos (by omega)]
    · rw [if_neg h2, if_neg (by omega)]
theorem cellsI_succ_get {N k i : Nat} (h : i < N) : (cellsI N k (i + 1))[i]? = some [AV.own (Bid k i) N] := by simp [cellsI, h]
theorem cellsI_all (N k : Nat) : cellsI N k N = (List.range N).map fun i' => [AV.own (Bid k i') N] := by
  unfold cellsI
  refine List.map_congr_left fun j hj => ?_
  rw [if_pos (List.mem_range.1 hj)]
theorem fget_cons (i : Id) (o : AObj) (f : Fr) (id : Id) : fget ((i, o) :: f) id = if i = id then some o else fget f id := rfl
theorem fset_none : ∀ (f : Fr) (id : Id) (x : AObj), fget f id = none → fset f id x = f
  | [], _, _, _ => rfl
  | (i, o) :: r, id, x, h => by
    rw [fget_cons] at h
    split at h
    · cases h
    · rename_i hne
      show fset ((i, o) :: r) id x = _
      simp [fset, hne, fset_none r id x h]
def Rows (t : List Nd) (l : List Int) (N k i : Nat) (G : Fr) : Prop := ∀ i', i' < i → ∃ w fb, fget G (Bid k i') = some (.row w fb 4 1 (brow N (Ek t l k i')))
def RI (t : List Nd) (l : List Int) (N k : Nat) (F : Fr) (i : Nat) (H : Heap) : Prop := ∃ G fl, H = [G, F] ∧ fget G [7, k, 5] = some (.row true fl 89 1 (cellsI N k i)) ∧ (0 < i → fl = false) ∧ fget G [5] = none ∧ Rows t l N k i G
theorem RI.step {t : List Nd} {l : List Int} {N k i : Nat} {F G : Fr} {fl fb : Bool} {f : Nat → Bool} (h1 : fget G [7, k, 5] = some (.row true fl 89 1 (cellsI N k i))) (h3 : fget G [5] = none) (h4 : Rows t l N k i G)
    (hf : ∀ j, j < N → f j = Ek t l k i j) : RI t l N k F (i + 1) [(([7, k, 8, i, 6] : Id), AObj.row true fb 4 1 (brow N f)) :: fset G [7, k, 5] (.row true false 89 1 (cellsI N k (i + 1))), F] := by
  refine ⟨_, false, rfl, ?_, fun _ => rfl, ?_, fun i' hi' => ?_⟩
  · rw [fget_cons, if_neg (by simp), fget_fset]
    simp [h1]
  · rw [fget_cons, if_neg (by simp), fget_fset]
    simp [h3]
  · rw [fget_cons]
    by_cases e : i' = i
    · subst e
      rw [show (Bid k i') = [7, k, 8, i', 6] from rfl, if_pos rfl, brow_congr hf]
      exact ⟨true, fb, rfl⟩
    · obtain ⟨w, fb', h⟩ := h4 i' (by omega)
      refine ⟨w, fb', ?_⟩
      rw [if_neg (by unfold Bid; simp; omega), fget_fset, if_neg (by unfold Bid; simp)]
      exact h
theorem fzd_bool (d : Nat) (H : Heap) (b : Bool) : fzd (d + 1) H (.bool b) = some (.bool b, H) := rfl
theorem fzd_ownT {d : Nat} {H : Heap} {id : Id} {n : Nat} {w : Bool} {e z : Nat} {rows : List (List AV)} (h : hget H id = some (.row w true e z rows)) (hn : rows.length = n) : fzd (d + 1) H (.own id n) = some (.list z rows, hset H id (.row false true e z rows)) := by
  rw [fzd]
  simp only [h, hn, if_true]
theorem fzd_ownF {d : Nat} {H : Heap} {id : Id} {n : Nat} {w : Bool} {e z : Nat} {rows : List (List AV)} (h : hget H id = some (.row w false e z rows)) (hn : rows.length = n) {rows' : List (List AV)} {H' : Heap} (hr : fzd.fzrows (fzd d) (hset H id (.row false false e z rows)) rows = some (rows', H')) : fzd (d + 1) H (.own id n) = some (.list z rows', H') := by
  rw [fzd]
  simp only [h, hn, if_true, hr]
theorem fzrows_one {f : Heap → AV → Option (AV × Heap)} {H H1 H2 : Heap} {c c' : AV} {r r' : List (List AV)} (h1 : f H c = some (c', H1)) (h2 : fzd.fzrows f H1 r = some (r', H2)) : fzd.fzrows f H ([c] :: r) = some ([c'] :: r', H2) := by
  rw [fzd.fzrows]
  simp only [fzd.fzcells, h1, h2]
theorem fzrows_bools (d : Nat) (H : Heap) : ∀ (L : List Nat) (f : Nat → Bool), fzd.fzrows (fzd (d + 1)) H (L.map fun j => [AV.bool (f j)]) = some (L.map fun j => [AV.bool (f j)], H)
  | [], f => by rw [List.map_nil, fzd.fzrows]
  | x :: L, f => by
    rw [List.map_cons]
    exact fzrows_one (fzd_bool d H _) (fzrows_bools d H L f)
theorem fzrows_objs {t : List Nd} {l : List Int} {N k : Nat} {F : Fr} : ∀ (L : List Nat) (G : Fr), (∀ i ∈ L, ∃ w fb, fget G (Bid k i) = some (.row w fb 4 1 (brow N (Ek t l k i)))) → fget G [5] = none →
    ∃ G', fzd.fzrows (fzd 3) [G, F] (L.map fun i => [AV.own (Bid k i) N]) = some (L.map fun i => [AV.list 1 (brow N (Ek t l k i))], [G', F]) ∧ fget G' [5] = none
  | [], G, _, h5 => ⟨G, by rw [List.map_nil, fzd.fzrows, List.map_nil], h5⟩
  | x :: L, G, h, h5 => by
    obtain ⟨w, fb, hx⟩ := h x (by simp)
    have hg : hget [G, F] (Bid k x) = some (.row w fb 4 1 (brow N (Ek t l k x))) := by simp [hget, hx]
    have hst : ∀ o, hset [G, F] (Bid k x) o = [fset G (Bid k x) o, F] := fun o => by simp [hset, hx]
    have key : fzd 3 [G, F] (.own (Bid k x) N) = some (.list 1 (brow N (Ek t l k x)), [fset G (Bid k x) (.row false fb 4 1 (brow N (Ek t l k x))), F]) := by
      cases fb with
      | true =>
        rw [fzd_ownT hg (brow_len _ _), hst]
      | false =>
        refine fzd_ownF hg (brow_len _ _) ?_
        rw [hst]
        exact fzrows_bools 1 _ (List.range N) (Ek t l k x)
    obtain ⟨G', e3, h5'⟩ := fzrows_objs (t := t) (l := l) (N := N) (k := k) (F := F) L (fset G (Bid k x) (.row false fb 4 1 (brow N (Ek t l k x)))) (fun i hi => by
      obtain ⟨w', fb', h'⟩ := h i (by simp [hi])
      rw [fget_fset]
      by_cases e : x = i
      · subst e
        exact ⟨false, fb, by simp [hx]⟩
      · refine ⟨w', fb', ?_⟩
        rw [if_neg (by unfold Bid; simp; omega)]
        exact h') (by rw [fget_fset, if_neg (by unfold Bid; simp)]; exact h5)
    refine ⟨G', ?_, h5'⟩
    rw [List.map_cons, List.map_cons]
    exact fzrows_one key e3
theorem RI.froz {t : List Nd} {l : List Int} {N k : Nat} {F : Fr} {G : Fr} {fl : Bool} (h1 : fget G [7, k, 5] = some (.row true fl 89 1 (cellsI N k N))) (hN : 0 < N) (h2 : 0 < N → fl = false) (h3 : fget G [5] = none) (h4 : Rows t l N k N G) :
    ∃ G', fz [G, F] (.own [7, k, 5] N) = some (.list 1 (mrows N (Ek t l k)), [G', F]) ∧ fget G' [5] = none := by
  have hf := h2 hN
  subst hf
  have hg : hget [G, F] [7, k, 5] = some (.row true false 89 1 (cellsI N k N)) := by simp [hget, h1]
  have hst : ∀ o, hset [G, F] [7, k, 5] o = [fset G [7, k, 5] o, F] := fun o => by simp [hset, h1]
  obtain ⟨G', e, h5⟩ := fzrows_objs (t := t) (l := l) (N := N) (k := k) (F := F) (List.range N) (fset G [7, k, 5] (.row false false 89 1 (cellsI N k N))) (fun i hi => by
    obtain ⟨w, fb, h⟩ := h4 i (List.mem_range.1 hi)
    refine ⟨w, fb, ?_⟩
    rw [fget_fset, if_neg (by unfold Bid; simp)]
    exact h) (by rw [fget_fset, if_neg (by simp)]; exact h3)
  refine ⟨G', ?_, h5⟩
  rw [← cellsI_all] at e
  refine fzd_ownF hg (cellsI_len _ _ _) ?_
  rw [hst]
  exact e
theorem pure_outR (t : List Nd) (l : List Int) (N k : Nat) : Pure (.list 1 (outR t l N k)) = True := by
  rw [pure_list]
  refine eq_true fun r hr a ha => ?_
  obtain ⟨k', _, rfl⟩ := List.mem_map.1 hr
  simp only [List.mem_singleton] at ha
  subst ha
  rw [pure_list]
  intro r hr a ha
  obtain ⟨i, _, rfl⟩ := List.mem_map.1 hr
  simp only [List.mem_singleton] at ha
  subst ha
  rw [pure_list]
  intro r hr a ha
  obtain ⟨j, _, rfl⟩ := List.mem_map.1 hr
  simp only [List.mem_singleton] at ha
  subst ha
  exact .bool _
end Go.Proofs.Abs

set_option maxRecDepth 100000
set_option maxHeartbeats 1000000
namespace Go.Proofs.Abs
open Go
section
variable {t : List Nd} {l : List Int} {k : Nat}
theorem Ek_lt {i j : Nat} (h : j < i) : Ek t l k i j = false := by
  unfold Ek
  rw [decide_eq_false (by omega), Bool.false_and]
theorem Ek_le {i j : Nat} (h : i ≤ j) : Ek t l k i j = tk t l k i j := by
  unfold Ek
  rw [decide_eq_true h, Bool.true_and]
theorem Ek_alt (h : (t.getD k default).kind = 4) {a b : Nat} (ha : (t.getD k default).a = a) (hb : (t.getD k default).b = b) (h1 : a < k) (h2 : b < k) (i j : Nat) : Ek t l k i j = (Ek t l a i j || Ek t l b i j) := by
  by_cases hij : i ≤ j
  · rw [Ek_le hij, Ek_le hij, Ek_le hij, tk_alt h ha hb h1 h2]
  · rw [Ek_lt (by omega), Ek_lt (by omega), Ek_lt (by omega)]; rfl
def catG (t : List Nd) (l : List Int) (a b i c j : Nat) : Bool := (List.range c).any fun d => Ek t l a i (i + d) && Ek t l b (i + d) j
theorem catG_succ (a b i c j : Nat) : catG t l a b i (c + 1) j = (catG t l a b i c j || (Ek t l a i (i + c) && Ek t l b (i + c) j)) := any_succ _ _
theorem Ek_cat (h : (t.getD k default).kind = 3) {a b : Nat} (ha : (t.getD k default).a = a) (hb : (t.getD k default).b = b) (h1 : a < k) (h2 : b < k) {i j N : Nat} (hi : i < N) (hj : j < N) : catG t l a b i (N - i) j = Ek t l k i j := by
  unfold catG
  by_cases hij : i ≤ j
  · rw [Ek_le hij, tk_cat h ha hb h1 h2, Bool.eq_iff_iff]
    simp only [List.any_eq_true, List.mem_range, Bool.and_eq_true]
    constructor
    · rintro ⟨d, hd, e1, e2⟩
      by_cases hd2 : i + d ≤ j
      · rw [Ek_le (by omega)] at e1
        rw [Ek_le hd2] at e2
        exact ⟨d, by omega, e1, e2⟩
      · rw [Ek_lt (by omega)] at e2
        cases e2
    · rintro ⟨d, hd, e1, e2⟩
      exact ⟨d, by omega, by rw [Ek_le (by omega)]; exact e1, by rw [Ek_le (by omega)]; exact e2⟩
  · rw [Ek_lt (by omega)]
    refine any_false fun d hd => ?_
    rw [Ek_lt (t := t) (l := l) (k := b) (i := i + d) (j := j) (by omega), Bool.and_false]
def starG (t : List Nd) (l : List Int) (a i : Nat) : Nat → Nat → Bool
  | 0, j => decide (j = i)
  | c + 1, j => starG t l a i c j || (starG t l a i c (i + c) && Ek t l a (i + c) j)
theorem star_snoc (h : (t.getD k default).kind = 5) {a : Nat} (ha : (t.getD k default).a = a) (h1 : a < k) : ∀ (d i m j : Nat), m - i ≤ d → i ≤ m → m ≤ j → tk t l k i m = true → tk t l a m j = true → tk t l k i j = true := by
  intro d
  induction d with
  | zero =>
    intro i m j hd him hmj e1 e2
    have : i = m := by omega
    subst this
    rw [tk_star h ha h1, Bool.or_eq_true]
    by_cases hij : i = j
    · exact .inl (by simp [hij])
    · refine .inr (any_true (i := j - i - 1) (by omega) ?_)
      rw [show i + 1 + (j - i - 1) = j by omega, e2, Bool.true_and, tk_star h ha h1]
      simp
  | succ d ih =>
    intro i m j hd him hmj e1 e2
    by_cases him2 : i = m
    · subst him2
      exact ih i i j (by omega) (by omega) hmj e1 e2
    · rw [tk_star h ha h1, Bool.or_eq_true] at e1
      rcases e1 with e1 | e1
      · simp at e1; omega
      · simp only [List.any_eq_true, List.mem_range, Bool.and_eq_true] at e1
        obtain ⟨c, hc, e3, e4⟩ := e1
        have := ih (i + 1 + c) m j (by omega) (by omega) hmj e4 e2
        rw [tk_star h ha h1, Bool.or_eq_true]
        exact .inr (any_true (i := c) (by omega) (by rw [e3, this]; rfl))
theorem starG_sound (h : (t.getD k default).kind = 5) {a : Nat} (ha : (t.getD k default).a = a) (h1 : a < k) {i : Nat} : ∀ c j, starG t l a i c j = true → i ≤ j ∧ tk t l k i j = true := by
  intro c
  induction c with
  | zero =>
    intro j e
    simp only [starG, decide_eq_true_eq] at e
    subst e
    exact ⟨Nat.le_refl _, by rw [tk_star h ha h1]; simp⟩
  | succ c ih =>
    intro j e
    simp only [starG, Bool.or_eq_true, Bool.and_eq_true] at e
    rcases e with e | ⟨e1, e2⟩
    · exact ih j e
    · obtain ⟨h2, h3⟩ := ih _ e1
      by_cases hj : i + c ≤ j
      · rw [Ek_le hj] at e2
        exact ⟨by omega, star_snoc h ha h1 c i (i + c) j (by omega) (by omega) hj h3 e2⟩
      · rw [Ek_lt (by omega)] at e2
        cases e2
theorem starG_mono {a i : Nat} : ∀ c c' j, c ≤ c' → starG t l a i c j = true → starG t l a i c' j = true := by
  intro c c' j hc e
  induction c' with
  | zero => have : c = 0 := by omega
            subst this; exact e
  | succ c' ih =>
    by_cases h : c = c' + 1
    · subst h; exact e
    · simp only [starG, ih (by omega), Bool.true_or]
theorem starG_stay {a i m : Nat} : ∀ c, m < i + c → i ≤ m → starG t l a i c m = true → starG t l a i (m - i) m = true := by
  intro c
  induction c with
  | zero => intro h1 h2 _; omega
  | succ c ih =>
    intro h1 h2 e
    by_cases hm : m < i + c
    · simp only [starG, Bool.or_eq_true, Bool.and_eq_true] at e
      rcases e with e | ⟨_, e2⟩
      · exact ih hm h2 e
      · rw [Ek_lt hm] at e2; cases e2
    · have : m = i + c := by omega
      subst this
      simp only [starG, Bool.or_eq_true, Bool.and_eq_true] at e
      rw [show i + c - i = c by omega]
      rcases e with e | ⟨e1, _⟩
      · exact e
      · exact e1
theorem starG_full (h : (t.getD k default).kind = 5) {a : Nat} (ha : (t.getD k default).a = a) (h1 : a < k) {i N : Nat} : ∀ (d m j : Nat), j - m ≤ d → i ≤ m → m ≤ j → j < N → starG t l a i (N - i) m = true → tk t l k m j = true → starG t l a i (N - i) j = true := by
  intro d
  induction d with
  | zero =>
    intro m j hd him hmj hj e1 e2
    have : m = j := by omega
    subst this; exact e1
  | succ d ih =>
    intro m j hd him hmj hj e1 e2
    rw [tk_star h ha h1, Bool.or_eq_true] at e2
    rcases e2 with e2 | e2
    · simp at e2; subst e2; exact e1
    · simp only [List.any_eq_true, List.mem_range, Bool.and_eq_true] at e2
      obtain ⟨c, hc, e3, e4⟩ := e2
      have s1 := starG_stay (N - i) (by omega) him e1
      have s2 : starG t l a i (m - i + 1) (m + 1 + c) = true := by
        simp only [starG, Bool.or_eq_true, Bool.and_eq_true]
        rw [show i + (m - i) = m by omega]
        exact .inr ⟨s1, by rw [Ek_le (by omega)]; exact e3⟩
      exact ih (m + 1 + c) j (by omega) (by omega) (by omega) hj (starG_mono _ _ _ (by omega) s2) e4
theorem Ek_star (h : (t.getD k default).kind = 5) {a : Nat} (ha : (t.getD k default).a = a) (h1 : a < k) {i j N : Nat} (hi : i < N) (hj : j < N) : starG t l a i (N - i) j = Ek t l k i j := by
  rw [Bool.eq_iff_iff]
  constructor
  · intro e
    obtain ⟨h2, h3⟩ := starG_sound h ha h1 _ _ e
    rw [Ek_le h2]; exact h3
  · intro e
    by_cases hij : i ≤ j
    · rw [Ek_le hij] at e
      exact starG_full h ha h1 (j - i) i j (Nat.le_refl _) (Nat.le_refl _) hij hj (starG_mono 0 _ _ (Nat.zero_le _) (by simp [starG])) e
    · rw [Ek_lt (by omega)] at e; cases e
theorem Ek_empty (h : (t.getD k default).kind = 1) (i j : Nat) : fupd (fun _ => false) i true j = Ek t l k i j := by
  unfold fupd Ek
  rw [tk_empty h]
  by_cases e : j = i
  · subst e; simp
  · have : ¬ i = j := fun x => e x.symm
    simp [e, this]
theorem Ek_one (h : (t.getD k default).kind = 2) (i j : Nat) : fupd (fun _ => false) (i + 1) (hasS (t.getD k default).set (l.getD i 0)) j = Ek t l k i j := by
  unfold fupd Ek
  rw [tk_one h]
  by_cases e : j = i + 1
  · subst e; simp
  · simp [e]
theorem Ek_oneout (h : (t.getD k default).kind = 2) {i j : Nat} (hj : j ≤ i) : Ek t l k i j = false := by
  unfold Ek
  rw [tk_one h, decide_eq_false (show ¬ j = i + 1 by omega), Bool.false_and, Bool.and_false]
theorem Ek_other (h1 : (t.getD k default).kind ≠ 1) (h2 : (t.getD k default).kind ≠ 2) (h3 : (t.getD k default).kind ≠ 3) (h4 : (t.getD k default).kind ≠ 4) (h5 : (t.getD k default).kind ≠ 5) (i j : Nat) : Ek t l k i j = false := by
  unfold Ek
  rw [tk_other h1 h2 h3 h4 h5, Bool.and_false]
end
end Go.Proofs.Abs

set_option maxRecDepth 100000
set_option maxHeartbeats 16000000
namespace Go.Proofs.Abs
open Go
noncomputable def o0 : FT := upd (n18) 42 k59.ora
theorem o0_ok : FTOK Tryz.prog o0 := upd_ok2 (f := 42) (n18_ok) ook59

theorem run73 (t : List Nd) (l : List Int) (lst : List Nat) (hw : WfT t) (hb : begs t = some lst) (hl : l.length ≤ 1000000) (ht : t.length ≤ 40000) : cwp o0 49 [] [(AV.list 5 (List.map eNd t)), (AV.list 1 (List.map (fun x => [AV.int .i64 x]) (l)))] [] (fun r H => r = .list 1 (outR t l (l.length + 1) t.length) ∧ H = []) := by
  refine run_fn (fn := fn73) rfl rfl ?_
  obtain ⟨N, hN⟩ : ∃ N, N = l.length + 1 := ⟨_, rfl⟩
  have w1 : IntKind.i64.wrap ((l.length : Int) + 1) = (N : Int) := by rw [hN]; exact wrapp (j := l.length) (by omega)
  rw [← hN]
  simp only [fn73_body, c73, D0, SP0, seval, -Int.reduceNatCast', w1]
  refine lg_rule (fun k e H => e = [(0, (AV.list 5 (List.map eNd t))), (1, (AV.list 1 (List.map (fun x => [AV.int .i64 x]) (l)))), (4, .own [0] 0), (5, .int .i64 (N : Int)), (6, .own [5] k), (7, .int .i64 k)] ∧ (∃ F, H = [F] ∧ fget F [5] = some (.row true true 90 1 (outR t l N k))) ∧ k ≤ t.length) t.length ?_ ?_
  · exact ⟨rfl, ⟨_, rfl, rfl⟩, by omega⟩
  rintro k e H ⟨rfl, ⟨F, rfl, hF⟩, hk⟩
  simp only [D0, SP0, seval, -Int.reduceNatCast']
  by_cases h : k < t.length
  · have h' : (k : Int) < (t.length : Int) := by omega
    have hpk := wrapp (j := k) (by omega)
    have hm24 : 0 ≤ (N : Int) ∧ (N : Int) * ((24 : Nat) : Int) ≤ 140737488355328 := by omega
    have hm1 : 0 ≤ (N : Int) ∧ (N : Int) * ((1 : Nat) : Int) ≤ 140737488355328 := by omega
    have hc0 := cellsI_zero N k
    simp only [D0, SP0, seval, -Int.reduceNatCast', h', hm24, hc0, decide_true, Int.toNat_natCast]
    refine lg_rule (fun i e H => e = [(0, (AV.list 5 (List.map eNd t))), (1, (AV.list 1 (List.map (fun x => [AV.int .i64 x]) (l)))), (4, .own [0] 0), (5, .int .i64 (N : Int)), (6, .own [5] k), (7, .int .i64 k), (8, .own [7, k, 5] N), (9, .int .i64 i)] ∧ RI t l N k F i H ∧ i ≤ N) N ?_ ?_
    · exact ⟨rfl, ⟨_, true, rfl, by simp [fget], by omega, by simp [fget], fun i' hi' => by omega⟩, by omega⟩
    rintro i e H ⟨rfl, hRI, hi⟩
    obtain ⟨G, fl, rfl, hG1, hG2, hG3, hG4⟩ := hRI
    simp only [D0, SP0, seval, -Int.reduceNatCast']
    by_cases h2 : i < N
    · have h2' : (i : Int) < (N : Int) := by omega
      have hpi := wrapp (j := i) (by omega)
      have hg := map_get (f := eNd) h default
      have hsl := (hw.all _ (getD_mem h)).set.len
      have hci := cellsI_get (k := k) h2
      have hci2 := cellsI_succ_get (k := k) h2
      have hcs := cellsI_set N k i
      unfold Bid at hci2 hcs
      have hfs : ∀ x, fget (fset G [7, k, 5] x) [7, k, 5] = some x := fun x => by rw [fget_fset]; simp [hG1]
      have hfs5 : ∀ x, fget (fset G [7, k, 5] x) [5] = none := fun x => by rw [fget_fset, if_neg (by simp)]; exact hG3
      have hbr := brow_rep N
      have bs := fun f j v => brow_set N f j v
      have hstep := fun fb f hf => RI.step (t := t) (l := l) (N := N) (k := k) (i := i) (F := F) (G := G) (fl := fl) (fb := fb) (f := f) hG1 hG3 hG4 hf
      obtain ⟨hle, hcut⟩ := begs_cut hb k h
      have hne : t[k] = t.getD k default := by
        rw [List.getD_eq_getElem?_getD, List.getElem?_eq_getElem h]
        rfl
      rw [hne] at hcut
      generalize hx : t.getD k default = x at hg hsl hcut
      obtain ⟨kk, a, b, c, z⟩ := x
      simp only at hsl
      simp only [D0, SP0, seval, -Int.reduceNatCast', h2', hm1, hG1, hci, hcs, cellsI_len, hbr, hfs, hfs5, hg, eNd, eSet, Bool.and_false, decide_true, Int.natCast_nonneg, Int.toNat_natCast]
      by_cases k1 : kk = 1
      · subst k1
        simp only [D0, SP0, seval, -Int.reduceNatCast', hfs, hfs5, hci2, cellsI_len, brow_len, brow_get _ h2, bs, h2', hpi, Bool.and_false, Int.natCast_nonneg, Int.toNat_natCast]
        exact .inl ⟨h2, hstep _ _ fun j hj => Ek_empty (by rw [hx]) i j, h2⟩
      have k1' : (kk == 1) = false := by simpa using k1
      by_cases k2 : kk = 2
      · subst k2
        by_cases hil : i < l.length
        · have hil' : (i : Int) < (l.length : Int) := by omega
          have hi1 : ((i + 1 : Nat) : Int) < (N : Int) := by omega
          have hgl := map_get (f := fun x : Int => [AV.int .i64 x]) (l := l) (j := i) hil 0
          simp only [D0, SP0, seval, -Int.reduceNatCast', hfs, hfs5, hci2, cellsI_len, brow_len, brow_get _ h2, bs, h2', hpi, Bool.and_false, Int.natCast_nonneg, Int.toNat_natCast, @use_all o0 42 k59.ora rfl, e59, hsl, hil', hi1, hgl, hg, eNd, eSet, brow_get _ (show i + 1 < N by omega), lrc_x, apx, apart, apart1, needs, decide_true]
          refine .inl ⟨h2, hstep _ _ fun j hj => ?_, h2⟩
          have := Ek_one (t := t) (l := l) (k := k) (by rw [hx]) i j
          rw [hx] at this
          exact this
        · have hil' : ¬ (i : Int) < (l.length : Int) := by omega
          simp only [D0, SP0, seval, -Int.reduceNatCast', hfs, hfs5, hci2, cellsI_len, brow_len, brow_get _ h2, bs, h2', hpi, Bool.and_false, Int.natCast_nonneg, Int.toNat_natCast, hil', decide_false]
          exact .inl ⟨h2, hstep _ _ fun j hj => (Ek_oneout (by rw [hx]) (by omega)).symm, h2⟩
      have k2' : (kk == 2) = false := by simpa using k2
      by_cases k3 : kk = 3
      · subst k3
        simp only [D0, SP0, seval, -Int.reduceNatCast', hfs, hfs5, hci2, cellsI_len, brow_len, brow_get _ h2, bs, h2', hpi, Bool.and_false, Int.natCast_nonneg, Int.toNat_natCast]
        have hab : ∃ a' b' : Nat, a = a' ∧ b = b' ∧ a' < k ∧ b' < k := by
          cases hcut with
          | fork hf c2 hb0 c1 ha hn2 hg0 =>
            simp only at ha hb0
            have := (begs_cut hb (k - 1) (by omega)).1
            exact ⟨lst.getD (k - 1) 0 - 1, k - 1, by omega, by omega, by omega, by omega⟩
          | star hf hk5 => simp only at hk5; omega
          | leaf hf hk5 => simp [isFork] at hf
        obtain ⟨a', b', rfl, rfl, ha', hb'⟩ := hab
        have hai : (a' : Int) < (k : Int) := by omega
        have hbi : (b' : Int) < (k : Int) := by omega
        have oa := outR_get (t := t) (l := l) (N := N) ha'
        have ob := outR_get (t := t) (l := l) (N := N) hb'
        have ma := mrows_get (Ek t l a') h2
        refine lg_rule (fun c e H => e = [(0, (AV.list 5 (List.map eNd t))), (1, (AV.list 1 (List.map (fun x => [AV.int .i64 x]) (l)))), (4, .own [0] 0), (5, .int .i64 (N : Int)), (6, .own [5] k), (7, .int .i64 k), (8, .own [7, k, 5] N), (9, .int .i64 i), (40, .int .i64 3), (10, .int .i64 (i + c : Nat))] ∧ (∃ fb f, H = [[([7, k, 8, i, 6], .row true fb 4 1 (brow N f))], fset G [7, k, 5] (.row true false 89 1 (cellsI N k (i + 1))), F] ∧ ∀ j, j < N → f j = catG t l a' b' i c j) ∧ i + c ≤ N) (N - i) ?_ ?_
        · exact ⟨rfl, ⟨true, _, rfl, fun j hj => rfl⟩, by omega⟩
        rintro m e H ⟨rfl, ⟨fb, f, rfl, hf⟩, hmN⟩
        simp only [D0, SP0, seval, -Int.reduceNatCast']
        by_cases hm : i + m < N
        · have hm' : ((i + m : Nat) : Int) < (N : Int) := by omega
          have hpm : IntKind.i64.wrap (((i + m : Nat) : Int) + 1) = ((i + (m + 1) : Nat) : Int) := wrapp (j := i + m) (by omega)
          have bam := brow_get (Ek t l a' i) hm
          have mb := mrows_get (Ek t l b') hm
          simp only [D0, SP0, seval, -Int.reduceNatCast', hF, hfs, hfs5, hci2, cellsI_len, brow_len, outR_len, bs, h2', Bool.and_false, Int.natCast_nonneg, Int.toNat_natCast, hg, eNd, eSet, hm', decide_true]
          refine lg_rule (fun d e H => e = [(0, (AV.list 5 (List.map eNd t))), (1, (AV.list 1 (List.map (fun x => [AV.int .i64 x]) (l)))), (4, .own [0] 0), (5, .int .i64 (N : Int)), (6, .own [5] k), (7, .int .i64 k), (8, .own [7, k, 5] N), (9, .int .i64 i), (40, .int .i64 3), (10, .int .i64 (i + m : Nat)), (11, .int .i64 (i + m + d : Nat))] ∧ (∃ fb f, H = [] :: [[([7, k, 8, i, 6], .row true fb 4 1 (brow N f))], fset G [7, k, 5] (.row true false 89 1 (cellsI N k (i + 1))), F] ∧ ∀ j, j < N → f j = if j < i + m + d then catG t l a' b' i (m + 1) j else catG t l a' b' i m j) ∧ i + m + d ≤ N) (N - (i + m)) ?_ ?_
          · refine ⟨rfl, ⟨fb, f, rfl, fun j hj => ?_⟩, by omega⟩
            rw [hf j hj]
            split
            · rw [catG_succ, Ek_lt (t := t) (l := l) (k := b') (i := i + m) (j := j) (by omega), Bool.and_false, Bool.or_false]
            · rfl
          rintro d e H ⟨rfl, ⟨fb, f, rfl, hf⟩, hd⟩
          simp only [D0, SP0, seval, -Int.reduceNatCast']
          by_cases hdN : i + m + d < N
          · have hdN' : ((i + m + d : Nat) : Int) < (N : Int) := by omega
            have hpd : IntKind.i64.wrap (((i + m + d : Nat) : Int) + 1) = ((i + m + (d + 1) : Nat) : Int) := wrapp (j := i + m + d) (by omega)
            have bfj := brow_get f hdN
            have bbj := brow_get (Ek t l b' (i + m)) hdN
            have hcs2 := catG_succ (t := t) (l := l) a' b' i m
            by_cases c1 : Ek t l a' i (i + m) = true
            · have fin : ∀ v, v = catG t l a' b' i (m + 1) (i + m + d) → ∀ j, j < N → fupd f (i + m + d) v j = if j < i + m + (d + 1) then catG t l a' b' i (m + 1) j else catG t l a' b' i m j := fun v hv j hj => by
                unfold fupd
                by_cases e : j = i + m + d
                · subst e; rw [if_pos rfl, hv, if_pos (by omega)]
                · rw [if_neg e, hf j hj]
                  by_cases e2 : j < i + m + d
                  · rw [if_pos e2, if_pos (by omega)]
                  · rw [if_neg e2, if_neg (by omega)]
              have hfj := hf (i + m + d) hdN
              rw [if_neg (by omega)] at hfj
              clear hf
              by_cases c2 : f (i + m + d) = true
              · simp only [D0, SP0, seval, -Int.reduceNatCast', hF, hfs, hfs5, hci2, cellsI_len, brow_len, outR_len, bs, h2', Bool.and_false, Int.natCast_nonneg, Int.toNat_natCast, hg, eNd, eSet, hdN', hpd, hai, hbi, oa, ob, ma, mb, bam, bbj, bfj, c1, c2, lrc_x, apx, apart, apart1, needs, decide_true]
                exact .inl ⟨by omega, ⟨_, _, rfl, fin _ (by rw [hcs2, ← hfj, c2]; rfl)⟩, by omega⟩
              · have c2' : f (i + m + d) = false := by simpa using c2
                simp only [D0, SP0, seval, -Int.reduceNatCast', hF, hfs, hfs5, hci2, cellsI_len, brow_len, outR_len, bs, h2', Bool.and_false, Int.natCast_nonneg, Int.toNat_natCast, hg, eNd, eSet, hdN', hpd, hai, hbi, oa, ob, ma, mb, bam, bbj, bfj, c1, c2', lrc_x, apx, apart, apart1, needs, decide_true]
                exact .inl ⟨by omega, ⟨_, _, rfl, fin _ (by rw [hcs2, ← hfj, c2', c1]; simp)⟩, by omega⟩
            · have c1' : Ek t l a' i (i + m) = false := by simpa using c1
              simp only [D0, SP0, seval, -Int.reduceNatCast', hF, hfs, hfs5, hci2, cellsI_len, brow_len, outR_len, bs, h2', Bool.and_false, Int.natCast_nonneg, Int.toNat_natCast, hg, eNd, eSet, hdN', hai, oa, ma, bam, c1', decide_true]
              refine .inr ⟨by simp, ?_⟩
              simp only [D0, SP0, seval, -Int.reduceNatCast', hpm]
              refine .inl ⟨by omega, ⟨_, _, rfl, fun j hj => ?_⟩, by omega⟩
              rw [hf j hj]
              split
              · rfl
              · rw [hcs2, c1', Bool.false_and, Bool.or_false]
          · have hdN' : ¬ ((i + m + d : Nat) : Int) < (N : Int) := by omega
            simp only [D0, SP0, seval, -Int.reduceNatCast', hdN', decide_false]
            refine .inr ⟨by simp, ?_⟩
            simp only [D0, SP0, seval, -Int.reduceNatCast', hpm]
            refine .inl ⟨by omega, ⟨_, _, rfl, fun j hj => ?_⟩, by omega⟩
            rw [hf j hj, if_pos (by omega)]
        · have hm' : ¬ ((i + m : Nat) : Int) < (N : Int) := by omega
          have hme : m = N - i := by omega
          subst hme
          simp only [D0, SP0, seval, -Int.reduceNatCast', hm', decide_false]
          refine .inr ⟨by simp, ?_⟩
          simp only [D0, SP0, seval, -Int.reduceNatCast', hpi]
          exact .inl ⟨h2, hstep _ _ fun j hj => by rw [hf j hj]; exact Ek_cat (by rw [hx]) (by rw [hx]) (by rw [hx]) ha' hb' h2 hj, h2⟩
      have k3' : (kk == 3) = false := by simpa using k3
      by_cases k4 : kk = 4
      · subst k4
        simp only [D0, SP0, seval, -Int.reduceNatCast', hfs, hfs5, hci2, cellsI_len, brow_len, brow_get _ h2, bs, h2', hpi, Bool.and_false, Int.natCast_nonneg, Int.toNat_natCast]
        have hab : ∃ a' b' : Nat, a = a' ∧ b = b' ∧ a' < k ∧ b' < k := by
          cases hcut with
          | fork hf c2 hb0 c1 ha hn2 hg0 =>
            simp only at ha hb0
            have := (begs_cut hb (k - 1) (by omega)).1
            exact ⟨lst.getD (k - 1) 0 - 1, k - 1, by omega, by omega, by omega, by omega⟩
          | star hf hk5 => simp only at hk5; omega
          | leaf hf hk5 => simp [isFork] at hf
        obtain ⟨a', b', rfl, rfl, ha', hb'⟩ := hab
        have hai : (a' : Int) < (k : Int) := by omega
        have hbi : (b' : Int) < (k : Int) := by omega
        have oa := outR_get (t := t) (l := l) (N := N) ha'
        have ob := outR_get (t := t) (l := l) (N := N) hb'
        have ma := mrows_get (Ek t l a') h2
        have mb := mrows_get (Ek t l b') h2
        refine lg_rule (fun d e H => e = [(0, (AV.list 5 (List.map eNd t))), (1, (AV.list 1 (List.map (fun x => [AV.int .i64 x]) (l)))), (4, .own [0] 0), (5, .int .i64 (N : Int)), (6, .own [5] k), (7, .int .i64 k), (8, .own [7, k, 5] N), (9, .int .i64 i), (40, .int .i64 4), (12, .int .i64 (i + d : Nat))] ∧ (∃ fb f, H = [[([7, k, 8, i, 6], .row true fb 4 1 (brow N f))], fset G [7, k, 5] (.row true false 89 1 (cellsI N k (i + 1))), F] ∧ ∀ j, j < N → f j = (decide (j < i + d) && Ek t l k i j)) ∧ i + d ≤ N) (N - i) ?_ ?_
        · exact ⟨rfl, ⟨true, _, rfl, fun j hj => by
            by_cases hji : j < i + 0
            · rw [Ek_lt (by omega), Bool.and_false]
            · rw [decide_eq_false hji, Bool.false_and]⟩, by omega⟩
        rintro d e H ⟨rfl, ⟨fb, f, rfl, hf⟩, hd⟩
        simp only [D0, SP0, seval, -Int.reduceNatCast']
        by_cases hdN : i + d < N
        · have hdN' : ((i + d : Nat) : Int) < (N : Int) := by omega
          have hpd : IntKind.i64.wrap (((i + d : Nat) : Int) + 1) = ((i + (d + 1) : Nat) : Int) := wrapp (j := i + d) (by omega)
          have ba := brow_get (Ek t l a' i) hdN
          have bb' := brow_get (Ek t l b' i) hdN
          have bfj := brow_get f hdN
          have hE := Ek_alt (t := t) (l := l) (k := k) (by rw [hx]) (a := a') (b := b') (by rw [hx]) (by rw [hx]) ha' hb' i (i + d)
          have fin : ∀ v, v = Ek t l k i (i + d) → ∀ j, j < N → fupd f (i + d) v j = (decide (j < i + (d + 1)) && Ek t l k i j) := fun v hv j hj => by
            unfold fupd
            by_cases e : j = i + d
            · subst e; rw [if_pos rfl, hv, decide_eq_true (by omega), Bool.true_and]
            · rw [if_neg e, hf j hj]
              by_cases e2 : j < i + d
              · rw [decide_eq_true e2, decide_eq_true (show j < i + (d + 1) by omega)]
              · rw [decide_eq_false e2, decide_eq_false (show ¬ j < i + (d + 1) by omega)]
          clear hf
          by_cases c1 : Ek t l a' i (i + d) = true
          · simp only [D0, SP0, seval, -Int.reduceNatCast', hF, hfs, hfs5, hci2, cellsI_len, brow_len, outR_len, bs, h2', Bool.and_false, Int.natCast_nonneg, Int.toNat_natCast, hg, eNd, eSet, hdN', hpd, hai, hbi, oa, ob, ma, mb, ba, bb', bfj, c1, lrc_x, apx, apart, apart1, needs, decide_true]
            exact .inl ⟨by omega, ⟨_, _, rfl, fin _ (by rw [hE, c1]; rfl)⟩, by omega⟩
          · have c1' : Ek t l a' i (i + d) = false := by simpa using c1
            simp only [D0, SP0, seval, -Int.reduceNatCast', hF, hfs, hfs5, hci2, cellsI_len, brow_len, outR_len, bs, h2', Bool.and_false, Int.natCast_nonneg, Int.toNat_natCast, hg, eNd, eSet, hdN', hpd, hai, hbi, oa, ob, ma, mb, ba, bb', bfj, c1', lrc_x, apx, apart, apart1, needs, decide_true]
            exact .inl ⟨by omega, ⟨_, _, rfl, fin _ (by rw [hE, c1', Bool.false_or])⟩, by omega⟩
        · have hdN' : ¬ ((i + d : Nat) : Int) < (N : Int) := by omega
          simp only [D0, SP0, seval, -Int.reduceNatCast', hdN', decide_false]
          refine .inr ⟨by simp, ?_⟩
          simp only [D0, SP0, seval, -Int.reduceNatCast', hpi]
          exact .inl ⟨h2, hstep _ _ fun j hj => by rw [hf j hj, decide_eq_true (by omega), Bool.true_and], h2⟩
      have k4' : (kk == 4) = false := by simpa using k4
      by_cases k5 : kk = 5
      · subst k5
        simp only [D0, SP0, seval, -Int.reduceNatCast', hfs, hfs5, hci2, cellsI_len, brow_len, brow_get _ h2, bs, h2', hpi, Bool.and_false, Int.natCast_nonneg, Int.toNat_natCast]
        have hab : ∃ a' : Nat, a = a' ∧ a' < k := by
          cases hcut with
          | fork hf => simp [isFork] at hf
          | leaf hf hk5 => exact absurd rfl hk5
          | star hf hk5 c1 ha hb0 hn2 hg0 =>
            simp only at ha
            exact ⟨k - 1, by omega, by omega⟩
        obtain ⟨a', rfl, ha'⟩ := hab
        have hai : (a' : Int) < (k : Int) := by omega
        have oa := outR_get (t := t) (l := l) (N := N) ha'
        refine lg_rule (fun c e H => e = [(0, (AV.list 5 (List.map eNd t))), (1, (AV.list 1 (List.map (fun x => [AV.int .i64 x]) (l)))), (4, .own [0] 0), (5, .int .i64 (N : Int)), (6, .own [5] k), (7, .int .i64 k), (8, .own [7, k, 5] N), (9, .int .i64 i), (40, .int .i64 5), (13, .int .i64 (i + c : Nat))] ∧ (∃ fb f, H = [[([7, k, 8, i, 6], .row true fb 4 1 (brow N f))], fset G [7, k, 5] (.row true false 89 1 (cellsI N k (i + 1))), F] ∧ ∀ j, j < N → f j = starG t l a' i c j) ∧ i + c ≤ N) (N - i) ?_ ?_
        · exact ⟨rfl, ⟨false, _, rfl, fun j hj => by simp [fupd, starG]⟩, by omega⟩
        rintro m e H ⟨rfl, ⟨fb, f, rfl, hf⟩, hmN⟩
        simp only [D0, SP0, seval, -Int.reduceNatCast']
        by_cases hm : i + m < N
        · have hm' : ((i + m : Nat) : Int) < (N : Int) := by omega
          have hpm : IntKind.i64.wrap (((i + m : Nat) : Int) + 1) = ((i + (m + 1) : Nat) : Int) := wrapp (j := i + m) (by omega)
          have mam := mrows_get (Ek t l a') hm
          simp only [D0, SP0, seval, -Int.reduceNatCast', hF, hfs, hfs5, hci2, cellsI_len, brow_len, outR_len, bs, h2', Bool.and_false, Int.natCast_nonneg, Int.toNat_natCast, hg, eNd, eSet, hm', decide_true]
          refine lg_rule (fun d e H => e = [(0, (AV.list 5 (List.map eNd t))), (1, (AV.list 1 (List.map (fun x => [AV.int .i64 x]) (l)))), (4, .own [0] 0), (5, .int .i64 (N : Int)), (6, .own [5] k), (7, .int .i64 k), (8, .own [7, k, 5] N), (9, .int .i64 i), (40, .int .i64 5), (13, .int .i64 (i + m : Nat)), (14, .int .i64 (i + m + d : Nat))] ∧ (∃ fb f, H = [] :: [[([7, k, 8, i, 6], .row true fb 4 1 (brow N f))], fset G [7, k, 5] (.row true false 89 1 (cellsI N k (i + 1))), F] ∧ ∀ j, j < N → f j = if j < i + m + d then starG t l a' i (m + 1) j else starG t l a' i m j) ∧ i + m + d ≤ N) (N - (i + m)) ?_ ?_
          · refine ⟨rfl, ⟨fb, f, rfl, fun j hj => ?_⟩, by omega⟩
            rw [hf j hj]
            split
            · rw [starG, Ek_lt (t := t) (l := l) (k := a') (i := i + m) (j := j) (by omega), Bool.and_false, Bool.or_false]
            · rfl
          rintro d e H ⟨rfl, ⟨fb, f, rfl, hf⟩, hd⟩
          simp only [D0, SP0, seval, -Int.reduceNatCast']
          by_cases hdN : i + m + d < N
          · have hdN' : ((i + m + d : Nat) : Int) < (N : Int) := by omega
            have hpd : IntKind.i64.wrap (((i + m + d : Nat) : Int) + 1) = ((i + m + (d + 1) : Nat) : Int) := wrapp (j := i + m + d) (by omega)
            have bfj := brow_get f hdN
            have bfm := brow_get f hm
            have baj := brow_get (Ek t l a' (i + m)) hdN
            have hfm : f (i + m) = starG t l a' i m (i + m) := by
              rw [hf (i + m) hm]
              split
              · rw [starG]; cases starG t l a' i m (i + m) <;> simp
              · rfl
            by_cases c1 : f (i + m) = true
            · have c1s : starG t l a' i m (i + m) = true := by rw [← hfm]; exact c1
              have fin : ∀ v, v = starG t l a' i (m + 1) (i + m + d) → ∀ j, j < N → fupd f (i + m + d) v j = if j < i + m + (d + 1) then starG t l a' i (m + 1) j else starG t l a' i m j := fun v hv j hj => by
                unfold fupd
                by_cases e : j = i + m + d
                · subst e; rw [if_pos rfl, hv, if_pos (by omega)]
                · rw [if_neg e, hf j hj]
                  by_cases e2 : j < i + m + d
                  · rw [if_pos e2, if_pos (by omega)]
                  · rw [if_neg e2, if_neg (by omega)]
              have hfj := hf (i + m + d) hdN
              rw [if_neg (by omega)] at hfj
              clear hf
              by_cases c2 : f (i + m + d) = true
              · simp only [D0, SP0, seval, -Int.reduceNatCast', hF, hfs, hfs5, hci2, cellsI_len, brow_len, outR_len, bs, h2', Bool.and_false, Int.natCast_nonneg, Int.toNat_natCast, hg, eNd, eSet, hm', hdN', hpd, hai, oa, mam, baj, bfj, bfm, c1, c2, lrc_x, apx, apart, apart1, needs, decide_true]
                exact .inl ⟨by omega, ⟨_, _, rfl, fin _ (by rw [starG, ← hfj, c2]; rfl)⟩, by omega⟩
              · have c2' : f (i + m + d) = false := by simpa using c2
                simp only [D0, SP0, seval, -Int.reduceNatCast', hF, hfs, hfs5, hci2, cellsI_len, brow_len, outR_len, bs, h2', Bool.and_false, Int.natCast_nonneg, Int.toNat_natCast, hg, eNd, eSet, hm', hdN', hpd, hai, oa, mam, baj, bfj, bfm, c1, c2', lrc_x, apx, apart, apart1, needs, decide_true]
                exact .inl ⟨by omega, ⟨_, _, rfl, fin _ (by rw [starG, ← hfj, c2', c1s]; simp)⟩, by omega⟩
            · have c1' : f (i + m) = false := by simpa using c1
              have c1s : starG t l a' i m (i + m) = false := by rw [← hfm]; exact c1'
              simp only [D0, SP0, seval, -Int.reduceNatCast', hF, hfs, hfs5, hci2, cellsI_len, brow_len, outR_len, bs, h2', Bool.and_false, Int.natCast_nonneg, Int.toNat_natCast, hg, eNd, eSet, hm', hdN', bfm, c1', decide_true]
              refine .inr ⟨by simp, ?_⟩
              simp only [D0, SP0, seval, -Int.reduceNatCast', hpm]
              refine .inl ⟨by omega, ⟨_, _, rfl, fun j hj => ?_⟩, by omega⟩
              rw [hf j hj]
              split
              · rfl
              · rw [starG, c1s, Bool.false_and, Bool.or_false]
          · have hdN' : ¬ ((i + m + d : Nat) : Int) < (N : Int) := by omega
            simp only [D0, SP0, seval, -Int.reduceNatCast', hdN', decide_false]
            refine .inr ⟨by simp, ?_⟩
            simp only [D0, SP0, seval, -Int.reduceNatCast', hpm]
            refine .inl ⟨by omega, ⟨_, _, rfl, fun j hj => ?_⟩, by omega⟩
            rw [hf j hj, if_pos (by omega)]
        · have hm' : ¬ ((i + m : Nat) : Int) < (N : Int) := by omega
          have hme : m = N - i := by omega
          subst hme
          simp only [D0, SP0, seval, -Int.reduceNatCast', hm', decide_false]
          refine .inr ⟨by simp, ?_⟩
          simp only [D0, SP0, seval, -Int.reduceNatCast', hpi]
          exact .inl ⟨h2, hstep _ _ fun j hj => by rw [hf j hj]; exact Ek_star (by rw [hx]) (by rw [hx]) ha' h2 hj, h2⟩
      have k5' : (kk == 5) = false := by simpa using k5
      simp only [D0, SP0, seval, -Int.reduceNatCast', hfs, hfs5, hci2, cellsI_len, brow_len, brow_get _ h2, bs, h2', hpi, Bool.and_false, Int.natCast_nonneg, Int.toNat_natCast, k1', k2', k3', k4', k5']
      exact .inl ⟨h2, hstep _ _ fun j hj => (Ek_other (by rw [hx]; exact k1) (by rw [hx]; exact k2) (by rw [hx]; exact k3) (by rw [hx]; exact k4) (by rw [hx]; exact k5) i j).symm, h2⟩
    · have h2' : ¬ (i : Int) < (N : Int) := by omega
      have hiN : i = N := by omega
      subst hiN
      obtain ⟨G', hfz, hG5⟩ := RI.froz (F := F) hG1 (by omega) hG2 hG3 hG4
      have hcap : (k + 1) * 24 ≤ 140737488355328 := by omega
      simp only [D0, SP0, seval, -Int.reduceNatCast', h2', decide_false]
      refine .inr ⟨by simp, ?_⟩
      simp only [D0, SP0, seval, -Int.reduceNatCast', hfz, hF, hG5, hcap, outR_len, outR_succ, hpk]
      refine .inl ⟨h, ⟨_, rfl, ?_⟩, h⟩
      rw [List.cons_append, fget_cons, if_neg (by simp), fget_append, hG5]
      simp [fget_fset, hF]
  · have h' : ¬ (k : Int) < (t.length : Int) := by omega
    have hk2 : k = t.length := by omega
    subst hk2
    simp only [D0, SP0, seval, -Int.reduceNatCast', h', decide_false]
    refine .inr ⟨by simp, ?_⟩
    simp only [F1, SF0, SP0, seval, -Int.reduceNatCast', fn73_res, fn73_keep, fz, fzd, hF, outR_len]
end Go.Proofs.Abs

set_option maxRecDepth 100000
set_option maxHeartbeats 4000000
namespace Go.Proofs.Abs
open Go
noncomputable def k73 : Kon (List Nd × List Int) := ⟨fun x => (∃ lst, begs x.1 = some lst) ∧ WfT x.1 ∧ x.2.length ≤ 1000000 ∧ x.1.length ≤ 40000, fun x => [(AV.list 5 (List.map eNd x.1)), (AV.list 1 (List.map (fun x => [AV.int .i64 x]) (x.2)))], fun x => .list 1 (outR x.1 x.2 (x.2.length + 1) x.1.length)⟩
theorem e73 (t : List Nd) (l : List Int) (hd : (∃ lst, begs t = some lst) ∧ WfT t ∧ l.length ≤ 1000000 ∧ t.length ≤ 40000) (q0 : Id) (H0 : Heap) : k73.ora q0 ([(AV.list 5 (List.map eNd t)), (AV.list 1 (List.map (fun x => [AV.int .i64 x]) (l)))]) H0 = some (.list 1 (outR t l (l.length + 1) t.length), H0) := k73.eq (by dsimp only [k73]; rintro ⟨a, m⟩ ⟨b, n⟩ h; simp only [List.cons.injEq, and_true] at h; rw [eTree_inj (a := a) (b := b) h.1, eRow_inj (a := m) (b := n) h.2]) (t, l) hd q0 H0
theorem ook73 : OraOK Tryz.prog (49 % 100000) k73.ora := k73.ok orders o0_ok (fun x hd => by simp [k73, PU]) (fun x hd => by simp [k73, PU, pure_outR]) (fun x hd => run73 x.1 x.2 hd.1.choose hd.2.1 hd.1.choose_spec hd.2.2.1 hd.2.2.2)

noncomputable def o1 : FT := upd (o0) 49 k73.ora
theorem o1_ok : FTOK Tryz.prog o1 := upd_ok2 (f := 49) (o0_ok) ook73

end Go.Proofs.Abs

set_option maxRecDepth 100000
namespace Go.Proofs.Abs
open Go
structure LightD (r : Rs) (l : List Int) : Prop where
  own : OwnD r
  wg : WGoodD r
  good : GoodD r
  mean : MeanD r l
  row : l.length ≤ 8
  list : r.list.length ≤ 60
  sm : ∀ x ∈ r.list, SmS x.before ∧ SmS x.after ∧ x.before.length ≤ 600 ∧ x.after.length ≤ 600
theorem light_rules {r : Rs} {l : List Int} (hw : WfR r) (h : lightR r l = true) : LightD r l := by
  simp only [lightR, Bool.and_eq_true, Bool.not_eq_true', decide_eq_true_eq] at h
  obtain ⟨⟨h1, h2⟩, h3⟩ := h
  obtain ⟨h4, h5, h6, h7⟩ := largeR_all h1
  have hn : NmsD r.names := ⟨fun n hn => by have := (largeN_all h4 n hn).1; omega, by have := largeN_len h4; omega⟩
  have ht : ∀ x ∈ r.list, SmS x.before ∧ SmS x.after ∧ x.before.length ≤ 600 ∧ x.after.length ≤ 600 := fun x hx =>
    ⟨large_set (hw.list.2 x hx).before (h6 x hx).1, large_set (hw.list.2 x hx).after (h6 x hx).2, large_len (h6 x hx).1, large_len (h6 x hx).2⟩
  have ho : OwnD r := ⟨hn, fun x hx => by
    obtain ⟨a, b, c, d⟩ := ht x hx
    exact ⟨⟨a.set, by omega⟩, ⟨b.set, by omega⟩⟩, by omega⟩
  have hg : WGoodD r := ⟨hw, ho⟩
  exact ⟨ho, hg, ⟨hw, hn, by omega⟩, ⟨hg, ⟨by omega⟩⟩, h2, h5, ht⟩
theorem ends_tells (x : Rl) (l : List Int) {i : Nat} (hi : i ≤ l.length) (gb : goodT x.before = true) (ga : goodT x.after = true) :
    tellsB x l i = (List.range (i + 1)).any fun k => Ek x.before (l.take i) (x.before.length - 1) 0 k && Ek x.after (l.take i) (x.after.length - 1) k i := by
  have e1 : decide ((0 : Int) ≤ (i : Int)) = true := by rw [decide_eq_true_eq]; omega
  have e2 : decide ((i : Int) ≤ (l.length : Int)) = true := by rw [decide_eq_true_eq]; omega
  unfold tellsB
  rw [e1, e2, Int.toNat_natCast]
  simp only [Bool.true_and]
  have hl : (l.take i).length = i := by rw [List.length_take]; omega
  refine any_congr fun k hk => ?_
  have h1 := takes_take (t := x.before) (l := l.take i) gb (q := k) (by rw [hl]; omega)
  have h2 := takes_drop (t := x.after) (l := l.take i) ga (p := k) (by rw [hl]; omega)
  rw [List.take_take, Nat.min_eq_left (by omega)] at h1
  rw [hl] at h2
  rw [h1, h2]
  unfold Ek
  rw [decide_eq_true (Nat.zero_le k), decide_eq_true (show k ≤ i by omega), Bool.true_and, Bool.true_and]
theorem tells_badB {x : Rl} (l : List Int) (i : Int) (g : goodT x.before = false) : tellsB x l i = false := by
  simp [tellsB, takesT, g]
theorem tells_badA {x : Rl} (l : List Int) (i : Int) (g : goodT x.after = false) : tellsB x l i = false := by
  simp [tellsB, takesT, g]
end Go.Proofs.Abs

set_option maxRecDepth 100000
set_option maxHeartbeats 16000000
namespace Go.Proofs.Abs
open Go
theorem run1237 (x : Rl) (l : List Int) (i : Int) (wb : WfT x.before) (wa : WfT x.after) (hl : RowD l) : cwp o1 20 [] [.agg (eRl x), (AV.list 1 (List.map (fun x => [AV.int .i64 x]) (l))), .int .i64 i] [] (fun v H => v = .bool (tellsB x l i) ∧ H = []) := by
  refine run_fn (fn := fn1237) rfl rfl ?_
  have hll := hl.len
  obtain ⟨b, a, c⟩ := x
  simp only at wb wa
  by_cases h0 : i < 0
  · have hr : tellsB ⟨b, a, c⟩ l i = false := by
      have : ¬ 0 ≤ i := by omega
      simp [tellsB, this]
    simp only [fn1237_body, c1237, D0, SP0, seval, -Int.reduceNatCast', eRl, h0, decide_true]
    simp only [F1, SF0, SP0, seval, -Int.reduceNatCast', fn1237_res, fn1237_keep, hr]
  by_cases h1 : i > (l.length : Int)
  · have hr : tellsB ⟨b, a, c⟩ l i = false := by
      have : ¬ i ≤ (l.length : Int) := by omega
      simp [tellsB, this]
    simp only [fn1237_body, c1237, D0, SP0, seval, -Int.reduceNatCast', eRl, h0, h1, decide_true, decide_false]
    simp only [F1, SF0, SP0, seval, -Int.reduceNatCast', fn1237_res, fn1237_keep, hr]
  by_cases gb : goodT b = true
  case neg =>
    have gb' : goodT b = false := by simpa using gb
    have hr := tells_badB (x := ⟨b, a, c⟩) l i gb'
    simp only [fn1237_body, c1237, D0, SP0, seval, -Int.reduceNatCast', @use_all o1 48 k30.ora rfl, e30, wb, gb', eRl, h0, h1, decide_false]
    simp only [F1, SF0, SP0, seval, -Int.reduceNatCast', fn1237_res, fn1237_keep, hr]
  by_cases ga : goodT a = true
  case neg =>
    have ga' : goodT a = false := by simpa using ga
    have hr := tells_badA (x := ⟨b, a, c⟩) l i ga'
    simp only [fn1237_body, c1237, D0, SP0, seval, -Int.reduceNatCast', @use_all o1 48 k30.ora rfl, e30, wb, wa, gb, ga', eRl, h0, h1, decide_false]
    simp only [F1, SF0, SP0, seval, -Int.reduceNatCast', fn1237_res, fn1237_keep, hr]
  obtain ⟨n, rfl⟩ : ∃ n : Nat, i = n := ⟨i.toNat, by omega⟩
  have hn : n ≤ l.length := by omega
  have hT := ends_tells ⟨b, a, c⟩ l hn gb ga
  simp only at hT
  obtain ⟨m, hm⟩ : ∃ m, m = l.take n := ⟨_, rfl⟩
  have hml : m.length = n := by rw [hm, List.length_take]; omega
  have m1 : List.take n (List.map (fun x : Int => [AV.int .i64 x]) l) = List.map (fun x => [AV.int .i64 x]) m := by rw [hm]; exact List.map_take.symm
  rw [← hm] at hT
  obtain ⟨b1, b2, lb, b3, b4⟩ := goodT_iff.1 gb
  obtain ⟨a1, a2, la, a3, a4⟩ := goodT_iff.1 ga
  have eb := fun q H => e73 b m ⟨⟨lb, b3⟩, wb, by omega, b2⟩ q H
  have ea := fun q H => e73 a m ⟨⟨la, a3⟩, wa, by omega, a2⟩ q H
  have wmb := wrapm (j := b.length) (by omega) (by omega)
  have wma := wrapm (j := a.length) (by omega) (by omega)
  have ob := outR_get (t := b) (l := m) (N := m.length + 1) (k := b.length) (a := b.length - 1) (by omega)
  have oa := outR_get (t := a) (l := m) (N := m.length + 1) (k := a.length) (a := a.length - 1) (by omega)
  have mb := mrows_get (N := m.length + 1) (i := 0) (Ek b m (b.length - 1)) (by omega)
  have z0 : (0 : Int).toNat = 0 := rfl
  have z1 : (0 : Int) ≤ 0 := Int.le_refl _
  have z2 : (n : Int) ≤ (l.length : Int) := by omega
  rw [hml] at ob oa mb eb ea
  simp only [fn1237_body, c1237, D0, SP0, seval, -Int.reduceNatCast', @use_all o1 48 k30.ora rfl, e30, @use_all o1 49 k73.ora rfl, eb, ea, m1, wb, wa, gb, ga, wmb, wma, ob, oa, mb, outR_len, eRl, h0, h1, hn, z0, z1, z2, decide_false, lrc_y, lrc_n, apx, apart, apart1, needs, Nat.le_refl, Nat.zero_le, and_self, Nat.sub_zero, List.drop_zero, Int.natCast_nonneg, Int.toNat_natCast]
  refine lg_rule (fun k e H => e = [(0, .agg [(AV.list 5 (List.map eNd b)), (AV.list 5 (List.map eNd a)), .bool c]), (1, (AV.list 1 (List.map (fun x => [AV.int .i64 x]) (l)))), (2, .int .i64 n), (3, .ref [0] 1 0 0), (6, .bool false), (7, .list 1 (brow (n + 1) (Ek b m (b.length - 1) 0))), (8, .list 1 (mrows (n + 1) (Ek a m (a.length - 1)))), (9, .int .i64 k)] ∧ H = [[([0], .box [(AV.list 5 (List.map eNd b)), (AV.list 5 (List.map eNd a)), .bool c])]] ∧ k ≤ n + 1 ∧ ∀ j, j < k → (Ek b m (b.length - 1) 0 j && Ek a m (a.length - 1) j n) = false) (n + 1) ?_ ?_
  · exact ⟨rfl, rfl, by simp, by simp⟩
  rintro k e H ⟨rfl, rfl, hk, hki⟩
  by_cases h : k < n + 1
  · have h' : (k : Int) ≤ (n : Int) := by omega
    have hp := wrapp (j := k) (by omega)
    have step : (Ek b m (b.length - 1) 0 k && Ek a m (a.length - 1) k n) = false → ∀ j, j < k + 1 → (Ek b m (b.length - 1) 0 j && Ek a m (a.length - 1) j n) = false := fun e j hj => by
      by_cases hjk : j = k
      · rw [hjk]; exact e
      · exact hki j (by omega)
    have yes : (Ek b m (b.length - 1) 0 k && Ek a m (a.length - 1) k n) = true → tellsB ⟨b, a, c⟩ l n = true := fun e => by
      rw [hT]; exact List.any_eq_true.2 ⟨k, List.mem_range.2 h, e⟩
    have gb1 := brow_get (Ek b m (b.length - 1) 0) h
    have ga1 := mrows_get (Ek a m (a.length - 1)) h
    have ga2 := brow_get (N := n + 1) (j := n) (Ek a m (a.length - 1) k) (by omega)
    clear hki
    cases e1 : Ek b m (b.length - 1) 0 k with
    | false =>
      have step := step (by rw [e1]; rfl)
      rw [e1] at gb1
      simp only [D0, SP0, seval, -Int.reduceNatCast', gb1, h', hp, Int.natCast_nonneg, Int.toNat_natCast, decide_true]
      simp only [F1, SF0, SP0, seval, -Int.reduceNatCast']
      exact ⟨h, by omega, step⟩
    | true =>
      rw [e1] at gb1
      cases e2 : Ek a m (a.length - 1) k n with
      | false =>
        have step := step (by rw [e1, e2]; rfl)
        rw [e2] at ga2
        simp only [D0, SP0, seval, -Int.reduceNatCast', gb1, ga1, ga2, h', hp, Int.natCast_nonneg, Int.toNat_natCast, decide_true]
        simp only [F1, SF0, SP0, seval, -Int.reduceNatCast']
        exact ⟨h, by omega, step⟩
      | true =>
        have yes := yes (by rw [e1, e2]; rfl)
        rw [e2] at ga2
        simp only [D0, SP0, seval, -Int.reduceNatCast', gb1, ga1, ga2, h', hp, Int.natCast_nonneg, Int.toNat_natCast, decide_true]
        refine .inr ⟨by simp, ?_⟩
        simp only [F1, SF0, SP0, seval, -Int.reduceNatCast', fn1237_res, fn1237_keep, yes]
  · have h' : ¬ (k : Int) ≤ (n : Int) := by omega
    have hr : tellsB ⟨b, a, c⟩ l n = false := by
      rw [hT, List.any_eq_false]
      intro j hj
      rw [hki j (by have := List.mem_range.1 hj; omega)]
      simp
    simp only [D0, SP0, seval, -Int.reduceNatCast', h', decide_false]
    refine .inr ⟨by simp, ?_⟩
    simp only [F1, SF0, SP0, seval, -Int.reduceNatCast', fn1237_res, fn1237_keep, hr]
noncomputable def k1237 : Kon (Rl × List Int × Int) := ⟨fun x => WfL x.1 ∧ RowD x.2.1, fun x => [.agg [(AV.list 5 (List.map eNd x.1.before)), (AV.list 5 (List.map eNd x.1.after)), .bool x.1.brk], (AV.list 1 (List.map (fun x => [AV.int .i64 x]) (x.2.1))), .int .i64 x.2.2], fun x => .bool (tellsB x.1 x.2.1 x.2.2)⟩
theorem e1237 (w : Rl) (l : List Int) (i : Int) (hd : WfL w ∧ RowD l) (q0 : Id) (H0 : Heap) : k1237.ora q0 ([.agg [(AV.list 5 (List.map eNd w.before)), (AV.list 5 (List.map eNd w.after)), .bool w.brk], (AV.list 1 (List.map (fun x => [AV.int .i64 x]) (l))), .int .i64 i]) H0 = some (.bool (tellsB w l i), H0) := k1237.eq (rlRowIntInj) (w, l, i) hd q0 H0
theorem ook1237 : OraOK Tryz.prog (20 % 100000) k1237.ora := k1237.ok orders o1_ok (fun x hd => by simp [k1237, PU]) (fun x hd => by simp [k1237, PU]) (fun x hd => run1237 x.1 x.2.1 x.2.2 hd.1.before hd.1.after hd.2)

noncomputable def o2 : FT := upd (o1) 20 k1237.ora
theorem o2_ok : FTOK Tryz.prog o2 := upd_ok2 (f := 20) (o1_ok) ook1237

theorem all_of {l : List Int} {k : Nat} (hk : k = l.length) (h : ∀ j, j < k → isS (l.getD j 0) = true) : l.all isS = true := by
  subst hk
  rw [List.all_eq_true]
  intro v hv
  obtain ⟨j, hj, rfl⟩ := List.getElem_of_mem hv
  have := h j hj
  rwa [List.getD_eq_getElem?_getD, List.getElem?_eq_getElem hj] at this
theorem all_not {l : List Int} {j : Nat} (hj : j < l.length) (h : isS (l.getD j 0) = false) : l.all isS = false := by
  rw [List.all_eq_false]
  refine ⟨l[j], List.getElem_mem hj, ?_⟩
  rw [List.getD_eq_getElem?_getD, List.getElem?_eq_getElem hj] at h
  simpa using h
theorem atOK_in {r : Rs} {l : List Int} {j : Nat} (h : j ≤ l.length) : atOK r l j = okR r l := by
  have e1 : decide ((0 : Int) ≤ (j : Int)) = true := by rw [decide_eq_true_eq]; omega
  have e2 : decide ((j : Int) ≤ (l.length : Int)) = true := by rw [decide_eq_true_eq]; omega
  unfold atOK
  rw [e1, e2, Bool.and_true, Bool.and_true]
theorem atB_in {r : Rs} {l : List Int} {j : Nat} (h : j ≤ l.length) : atB r l j = (okR r l && breakB r l j) := by
  unfold atB
  rw [atOK_in h, Int.toNat_natCast]
theorem run1235 (r : Rs) (l : List Int) (i : Int) (hd : MeanD r l) : cwp o2 17 [] [(AV.agg [(AV.list 2 (List.map eNm (Rs.names r))), (AV.list 3 (List.map eRl (Rs.list r))), AV.bool (Rs.els r)]), (AV.list 1 (List.map (fun x => [AV.int .i64 x]) (l))), .int .i64 i] [] (fun v H => v = .agg [.bool (atB r l i), .bool (atOK r l i)] ∧ H = []) := by
  refine run_fn (fn := fn1235) rfl rfl ?_
  have hll := hd.l.len
  have hrl := hd.r.own.len
  have dg : GoodD r := ⟨hd.r.wf, hd.r.own.names, hd.r.own.len⟩
  have off : atOK r l i = false → atB r l i = false := fun h => by simp [atB, h]
  cases g : goodR r with
  | false =>
    have h1 : atOK r l i = false := by simp [atOK, okR, g]
    have h2 := off h1
    simp only [fn1235_body, c1235, D0, SP0, seval, -Int.reduceNatCast', @use_all o2 22 k1239.ora rfl, e1239, goodRef_eq, fz_rules, dg, g]
    simp only [F1, SF0, SP0, seval, -Int.reduceNatCast', fn1235_res, fn1235_keep, fz, fzd, fzd.fzcells, h1, h2]
  | true =>
  by_cases h0 : i < 0
  · have h1 : atOK r l i = false := by
      have : ¬ 0 ≤ i := by omega
      simp [atOK, this]
    have h2 := off h1
    simp only [fn1235_body, c1235, D0, SP0, seval, -Int.reduceNatCast', @use_all o2 22 k1239.ora rfl, e1239, goodRef_eq, fz_rules, dg, g, h0, decide_true]
    simp only [F1, SF0, SP0, seval, -Int.reduceNatCast', fn1235_res, fn1235_keep, fz, fzd, fzd.fzcells, h1, h2]
  by_cases h3 : i > (l.length : Int)
  · have h1 : atOK r l i = false := by
      have : ¬ i ≤ (l.length : Int) := by omega
      simp [atOK, this]
    have h2 := off h1
    simp only [fn1235_body, c1235, D0, SP0, seval, -Int.reduceNatCast', @use_all o2 22 k1239.ora rfl, e1239, goodRef_eq, fz_rules, dg, g, h0, h3, decide_true, decide_false]
    simp only [F1, SF0, SP0, seval, -Int.reduceNatCast', fn1235_res, fn1235_keep, fz, fzd, fzd.fzcells, h1, h2]
  obtain ⟨n, rfl⟩ : ∃ n : Nat, i = n := ⟨i.toNat, by omega⟩
  simp only [fn1235_body, c1235, D0, SP0, seval, -Int.reduceNatCast', @use_all o2 22 k1239.ora rfl, e1239, goodRef_eq, fz_rules, dg, g, h0, h3, decide_false]
  have a1 := atOK_in (r := r) (l := l) (j := n) (by omega)
  have a2 := atB_in (r := r) (l := l) (j := n) (by omega)
  refine lg_rule (fun j e H => e = [(0, (AV.agg [(AV.list 2 (List.map eNm (Rs.names r))), (AV.list 3 (List.map eRl (Rs.list r))), AV.bool (Rs.els r)])), (1, (AV.list 1 (List.map (fun x => [AV.int .i64 x]) (l)))), (2, .int .i64 n), (3, .ref [0] 1 0 0), (6, .ref [1] 1 0 0), (7, .int .i64 j)] ∧ H = [[([1], .box [.bool false, .bool false]), ([0], .box [(AV.list 2 (List.map eNm (r.names))), (AV.list 3 (List.map eRl (r.list))), .bool r.els])]] ∧ j ≤ l.length ∧ ∀ i, i < j → isS (l.getD i 0) = true) l.length ?_ ?_
  · exact ⟨rfl, rfl, by simp, by simp⟩
  rintro j e H ⟨rfl, rfl, hj, hji⟩
  by_cases h : j < l.length
  · have h' : (j : Int) < (l.length : Int) := by omega
    have hp := wrapp (j := j) (by omega)
    have hg := map_get (f := fun x : Int => [AV.int .i64 x]) h 0
    have hno := all_not h
    have step : isS (l.getD j 0) = true → ∀ i, i < j + 1 → isS (l.getD i 0) = true := fun e i hi => by
      by_cases hij : i = j
      · rw [hij]; exact e
      · exact hji i (by omega)
    cases e : isS (l.getD j 0) with
    | true =>
      simp only [D0, SP0, seval, -Int.reduceNatCast', @use_all o2 23 k66.ora rfl, e66, h', hp, hg, e, decide_true, Int.natCast_nonneg, Int.toNat_natCast]
      simp only [F1, SF0, SP0, seval, -Int.reduceNatCast']
      exact ⟨h, h, step e⟩
    | false =>
      have h1 : atOK r l n = false := by rw [a1]; simp [okR, hno e]
      have h2 := off h1
      simp only [D0, SP0, seval, -Int.reduceNatCast', @use_all o2 23 k66.ora rfl, e66, h', hp, hg, e, decide_true, Int.natCast_nonneg, Int.toNat_natCast]
      refine .inr ⟨by simp, ?_⟩
      simp only [F1, SF0, SP0, seval, -Int.reduceNatCast', fn1235_res, fn1235_keep, fz, fzd, fzd.fzcells, h1, h2]
  · have h' : ¬ (j : Int) < (l.length : Int) := by omega
    have hs := all_of (l := l) (k := j) (by omega) hji
    have hok : okR r l = true := by simp [okR, g, hs]
    rw [hok] at a1 a2
    rw [Bool.true_and] at a2
    simp only [D0, SP0, seval, -Int.reduceNatCast', h', decide_false]
    refine .inr ⟨by simp, ?_⟩
    refine lg_rule (fun k e H => e = [(0, (AV.agg [(AV.list 2 (List.map eNm (Rs.names r))), (AV.list 3 (List.map eRl (Rs.list r))), AV.bool (Rs.els r)])), (1, (AV.list 1 (List.map (fun x => [AV.int .i64 x]) (l)))), (2, .int .i64 n), (3, .ref [0] 1 0 0), (6, .ref [1] 1 0 0), (7, .int .i64 j), (8, .int .i64 k)] ∧ H = [[([1], .box [.bool false, .bool false]), ([0], .box [(AV.list 2 (List.map eNm (r.names))), (AV.list 3 (List.map eRl (r.list))), .bool r.els])]] ∧ k ≤ r.list.length ∧ breakFrom r l n k = breakB r l n) r.list.length ?_ ?_
    · exact ⟨rfl, rfl, by simp, rfl⟩
    rintro k e H ⟨rfl, rfl, hk, hb⟩
    by_cases h2 : k < r.list.length
    · have h2' : (k : Int) < (r.list.length : Int) := by omega
      have hp := wrapp (j := k) (by omega)
      have hg := map_get (f := eRl) h2 default
      have hbs := breakFrom_step (r := r) (l := l) (i := n) h2
      have hw : WfL (r.list.getD k default) := hd.r.wf.list.2 _ (by rw [List.getD_eq_getElem?_getD, List.getElem?_eq_getElem h2]; exact List.getElem_mem h2)
      generalize r.list.getD k default = x at hg hbs hw
      have et := fun q H => e1237 x l n ⟨hw, hd.l⟩ q H
      cases e : tellsB x l n with
      | true =>
        rw [e, if_pos rfl, hb] at hbs
        simp only [D0, SP0, seval, -Int.reduceNatCast', @use_all o2 20 k1237.ora rfl, et, fz_rules, h2', hp, hg, eRl, e, decide_true, Int.natCast_nonneg, Int.toNat_natCast]
        refine .inr ⟨by simp, ?_⟩
        simp only [F1, SF0, SP0, seval, -Int.reduceNatCast', fn1235_res, fn1235_keep, fz, fzd, fzd.fzcells, a1, a2, hbs]
      | false =>
        rw [e, if_neg (by simp), hb] at hbs
        simp only [D0, SP0, seval, -Int.reduceNatCast', @use_all o2 20 k1237.ora rfl, et, fz_rules, h2', hp, hg, eRl, e, decide_true, Int.natCast_nonneg, Int.toNat_natCast]
        simp only [F1, SF0, SP0, seval, -Int.reduceNatCast']
        exact ⟨h2, h2, hbs.symm⟩
    · have h2' : ¬ (k : Int) < (r.list.length : Int) := by omega
      have hkl : k = r.list.length := by omega
      subst hkl
      rw [breakFrom_end] at hb
      simp only [D0, SP0, seval, -Int.reduceNatCast', h2', decide_false]
      refine .inr ⟨by simp, ?_⟩
      simp only [F1, SF0, SP0, seval, -Int.reduceNatCast', fn1235_res, fn1235_keep, fz, fzd, fzd.fzcells, a1, a2, hb]
noncomputable def k1235 : Kon (Rs × List Int × Int) := ⟨fun x => MeanD x.1 x.2.1, fun x => [(AV.agg [(AV.list 2 (List.map eNm (Rs.names x.1))), (AV.list 3 (List.map eRl (Rs.list x.1))), AV.bool (Rs.els x.1)]), (AV.list 1 (List.map (fun x => [AV.int .i64 x]) (x.2.1))), .int .i64 x.2.2], fun x => .agg [.bool (atB x.1 x.2.1 x.2.2), .bool (atOK x.1 x.2.1 x.2.2)]⟩
theorem e1235 (r : Rs) (l : List Int) (i : Int) (hd : MeanD r l) (q0 : Id) (H0 : Heap) : k1235.ora q0 ([(AV.agg [(AV.list 2 (List.map eNm (Rs.names r))), (AV.list 3 (List.map eRl (Rs.list r))), AV.bool (Rs.els r)]), (AV.list 1 (List.map (fun x => [AV.int .i64 x]) (l))), .int .i64 i]) H0 = some (.agg [.bool (atB r l i), .bool (atOK r l i)], H0) := k1235.eq (rulesRowIntInj) (r, l, i) hd q0 H0
theorem ook1235 : OraOK Tryz.prog (17 % 100000) k1235.ora := k1235.ok orders o2_ok (fun x hd => by simp [k1235, PU]) (fun x hd => by simp [k1235, PU]) (fun x hd => run1235 x.1 x.2.1 x.2.2 hd)

noncomputable def o3 : FT := upd (o2) 17 k1235.ora
theorem o3_ok : FTOK Tryz.prog o3 := upd_ok2 (f := 17) (o2_ok) ook1235

theorem run1233 (r : Rs) (l : List Int) (hd : MeanD r l) : cwp o3 15 [] [(AV.agg [(AV.list 2 (List.map eNm (Rs.names r))), (AV.list 3 (List.map eRl (Rs.list r))), AV.bool (Rs.els r)]), (AV.list 1 (List.map (fun x => [AV.int .i64 x]) (l)))] [] (fun v H => v = .tuple [(AV.list 1 (List.map (fun x => [AV.int .i64 x]) (if okR r l then breaksL r l else []))), .bool (okR r l)] ∧ H = []) := by
  refine run_fn (fn := fn1233) rfl rfl ?_
  have hll := hd.l.len
  simp only [fn1233_body, c1233, D0, SP0, seval, -Int.reduceNatCast']
  refine lg_rule (fun j e H => e = [(0, (AV.agg [(AV.list 2 (List.map eNm (Rs.names r))), (AV.list 3 (List.map eRl (Rs.list r))), AV.bool (Rs.els r)])), (1, (AV.list 1 (List.map (fun x => [AV.int .i64 x]) (l)))), (2, .ref [0] 1 0 0), (4, .own [1] 0), (5, .bool false), (6, .own [3] (brkU r l j).length), (7, .int .i64 j)] ∧
    H = [[([3], .row true true 3 1 (List.map (fun x => [AV.int .i64 x]) (brkU r l j))), ([1], .row true true 3 1 []), ([0], .box [(AV.list 2 (List.map eNm (r.names))), (AV.list 3 (List.map eRl (r.list))), .bool r.els])]] ∧ j ≤ l.length + 1 ∧ (0 < j → okR r l = true)) (l.length + 1) ?_ ?_
  · exact ⟨rfl, rfl, by omega, by omega⟩
  rintro j e H ⟨rfl, rfl, hj, hok⟩
  by_cases h : j < l.length + 1
  · have h' : (j : Int) ≤ (l.length : Int) := by omega
    have hp := wrapp (j := j) (by omega)
    have a1 := atOK_in (r := r) (l := l) (j := j) (by omega)
    have a2 := atB_in (r := r) (l := l) (j := j) (by omega)
    have ea := fun q H => e1235 r l j hd q H
    cases e : okR r l with
    | false =>
      rw [e] at a1 a2
      rw [Bool.false_and] at a2
      simp only [D0, SP0, seval, -Int.reduceNatCast', @use_all o3 17 k1235.ora rfl, ea, a1, a2, h', decide_true, fz_rules]
      refine .inr ⟨by simp, ?_⟩
      simp only [F1, SF0, SP0, seval, -Int.reduceNatCast', fn1233_res, fn1233_keep, fz, fzd, fzd.fzcells, Bool.false_eq_true, if_false, List.map_nil]
    | true =>
      rw [e] at a1 a2
      rw [Bool.true_and] at a2
      have hst := brkU_step r l j
      have hbl := brkU_len r l j
      have hc : ((brkU r l j).length + 1) * 8 ≤ 140737488355328 := by omega
      cases e2 : breakB r l j with
      | true =>
        rw [e2] at a2
        rw [e2, if_pos rfl] at hst
        rw [hst]
        generalize brkU r l j = B at hc
        simp only [D0, SP0, seval, -Int.reduceNatCast', @use_all o3 17 k1235.ora rfl, ea, a1, a2, h', hp, hc, decide_true, fz_rules, List.length_map]
        simp only [F1, SF0, SP0, seval, -Int.reduceNatCast']
        refine ⟨h, ?_⟩
        simp
        omega
      | false =>
        rw [e2] at a2
        rw [e2, if_neg (by simp)] at hst
        rw [hst]
        simp only [D0, SP0, seval, -Int.reduceNatCast', @use_all o3 17 k1235.ora rfl, ea, a1, a2, h', hp, decide_true, fz_rules, List.length_map]
        simp only [F1, SF0, SP0, seval, -Int.reduceNatCast']
        refine ⟨h, ?_⟩
        simp
        omega
  · have h' : ¬ (j : Int) ≤ (l.length : Int) := by omega
    have hjl : j = l.length + 1 := by omega
    subst hjl
    have e := hok (by omega)
    have hb : brkU r l (l.length + 1) = breaksL r l := rfl
    rw [hb]
    simp only [D0, SP0, seval, -Int.reduceNatCast', h', decide_false]
    refine .inr ⟨by simp, ?_⟩
    simp only [F1, SF0, SP0, seval, -Int.reduceNatCast', fn1233_res, fn1233_keep, fz, fzd, fzd.fzcells, e, if_true, List.length_map]
noncomputable def k1233 : Kon (Rs × List Int) := ⟨fun x => MeanD x.1 x.2, fun x => [(AV.agg [(AV.list 2 (List.map eNm (Rs.names x.1))), (AV.list 3 (List.map eRl (Rs.list x.1))), AV.bool (Rs.els x.1)]), (AV.list 1 (List.map (fun x => [AV.int .i64 x]) (x.2)))], fun x => .tuple [(AV.list 1 (List.map (fun x => [AV.int .i64 x]) (if okR x.1 x.2 then breaksL x.1 x.2 else []))), .bool (okR x.1 x.2)]⟩
theorem e1233 (r : Rs) (l : List Int) (hd : MeanD r l) (q0 : Id) (H0 : Heap) : k1233.ora q0 ([(AV.agg [(AV.list 2 (List.map eNm (Rs.names r))), (AV.list 3 (List.map eRl (Rs.list r))), AV.bool (Rs.els r)]), (AV.list 1 (List.map (fun x => [AV.int .i64 x]) (l)))]) H0 = some (.tuple [(AV.list 1 (List.map (fun x => [AV.int .i64 x]) (if okR r l then breaksL r l else []))), .bool (okR r l)], H0) := k1233.eq (fun _ _ h => rulesRowInj h) (r, l) hd q0 H0
theorem ook1233 : OraOK Tryz.prog (15 % 100000) k1233.ora := k1233.ok orders o3_ok (fun x hd => by simp [k1233, PU]) (fun x hd => by simp [k1233, PU]) (fun x hd => run1233 x.1 x.2 hd)

end Go.Proofs.Abs

set_option maxRecDepth 100000
set_option maxHeartbeats 16000000
namespace Go.Proofs.Abs
open Go
theorem bne_self' (b : Bool) : (b != b) = false := by cases b <;> rfl
theorem okv_u8 {v : AV} (h : Okv (.int .u8) v) : ∃ n : Nat, v = .int .u8 n ∧ n < 256 := by
  cases h with
  | int _ n h =>
    simp only [Lit.wf, Bool.and_eq_true, decide_eq_true_eq] at h
    have h1 : IntKind.u8.min = 0 := rfl
    have h2 : IntKind.u8.max = 255 := rfl
    rw [h1, h2] at h
    refine ⟨n.toNat, ?_, by omega⟩
    rw [Int.toNat_of_nonneg h.1]
def plC (r : Rs) (l : List Int) (j : Nat) : Nat := if okR r l then cntF (breakB r l) j else 0
def plA (r : Rs) (l : List Int) : List Int := if okR r l then breaksL r l else []
theorem plA_len (r : Rs) (l : List Int) : (plA r l).length = plC r l (l.length + 1) := by
  unfold plA plC
  cases okR r l
  · rfl
  · exact breaks_len r l
theorem plC_le (r : Rs) (l : List Int) {j : Nat} (h : j ≤ l.length + 1) : plC r l j ≤ (plA r l).length := by
  rw [plA_len]
  unfold plC
  cases okR r l
  · exact Nat.le_refl _
  · exact cntF_le _ h
theorem plC_no {r : Rs} {l : List Int} {j : Nat} (h : (okR r l && breakB r l j) = false) : plC r l (j + 1) = plC r l j := by
  unfold plC
  cases e : okR r l
  · rfl
  · rw [e, Bool.true_and] at h
    simp [cntF_succ, h]
theorem plC_yes {r : Rs} {l : List Int} {j : Nat} (hj : j ≤ l.length) (h : (okR r l && breakB r l j) = true) : plC r l (j + 1) = plC r l j + 1 ∧ (plA r l)[plC r l j]? = some (j : Int) := by
  rw [Bool.and_eq_true] at h
  unfold plC plA
  rw [h.1]
  simp only [if_true]
  exact ⟨by simp [cntF_succ, h.2], (breaks_at (by omega)).2 h.2⟩
theorem plA_le (r : Rs) (l : List Int) : (plA r l).length ≤ l.length + 1 := by
  rw [plA_len]
  unfold plC
  split
  · rw [← breaks_len]; unfold breaksL; rw [List.length_map]
    have := List.length_filter_le (fun i : Nat => breakB r l i) (List.range (l.length + 1))
    rw [List.length_range] at this
    exact this
  · omega
theorem tellsL_eq (r : Rs) (l : List Int) : (if okR r l then breaksL r l else []) = plA r l := rfl
noncomputable def o4' : FT := upd (upd (upd (upd (o3) 15 k1233.ora) 25 k22.ora) 27 k34.ora) 11 k1229.ora
theorem o4'_ok : FTOK Tryz.prog o4' := upd_ok2 (f := 11) (upd_ok2 (f := 27) (upd_ok2 (f := 25) (upd_ok2 (f := 15) (o3_ok) ook1233) ook22) ook34) ook1229

noncomputable def o4 : FT := upd o4' 12 kW.ora
theorem o4_ok : FTOK Tryz.prog o4 := upd_ok2 (f := 12) o4'_ok ook1230
theorem run1221 (r : Rs) (l : List Int) (i : Int) (wr : WfR r) (wl : l.length ≤ 9223372036854775807 ∧ ∀ x ∈ l, I64 x) (_ : I64 i) : cwp o4 3 [] [(AV.agg [(AV.list 2 (List.map eNm (Rs.names r))), (AV.list 3 (List.map eRl (Rs.list r))), AV.bool (Rs.els r)]), (AV.list 1 (List.map (fun x => [AV.int .i64 x]) (l))), .int .i64 i] [] (fun v H => v = .bool true ∧ H = []) := by
  refine run_fn (fn := fn1221) rfl rfl ?_
  have dl : WfRow l := ⟨wl.1⟩
  cases g : lightR r l with
  | false =>
    simp (maxSteps := 2000000) only [fn1221_body, c1221, D0, SP0, seval, -Int.reduceNatCast', @use_all o4 11 k1229.ora rfl, e1229, @use_all o4 12 kW.ora rfl, eW, wr, dl, g, fz_rules]
    simp only [F1, SF0, SP0, seval, -Int.reduceNatCast', fn1221_res, fn1221_keep]
  | true =>
  have L := light_rules wr g
  have lo := L.own
  have lm := L.mean
  have ll := L.row
  have lr := L.list
  have hz : (l.length = 0 + l.length) = True := eq_true (by omega)
  have hcap : (0 + l.length) * 8 ≤ 140737488355328 := by omega
  have same := sameRs_refl
  have ro := L.mean.l
  have hpl : (plA r l).length ≤ 9223372036854775807 := by have := plA_le r l; omega
  simp (maxSteps := 2000000) only [fn1221_body, c1221, D0, SP0, seval, -Int.reduceNatCast', @use_all o4 11 k1229.ora rfl, e1229, @use_all o4 13 k1231.ora rfl, e1231, @use_all o4 14 k1232.ora rfl, e1232, @use_all o4 15 k1233.ora rfl, e1233, @use_all o4 16 k1234.ora rfl, e1234, @use_all o4 17 k1235.ora rfl, e1235, @use_all o4 18 k1023.ora rfl, e1023, wr, dl, g, tellsL_eq, hpl, lo, lm, hz, hcap, bne_self', decide_true, fz_rules, fz, fzd, fzd.fzcells, List.nil_append, List.length_map]
  refine lg_rule (fun k e H => e = [(0, (AV.agg [(AV.list 2 (List.map eNm (Rs.names r))), (AV.list 3 (List.map eRl (Rs.list r))), AV.bool (Rs.els r)])), (1, (AV.list 1 (List.map (fun x => [AV.int .i64 x]) (l)))), (2, .int .i64 i), (3, .ref [0] 1 0 0), (6, .bool false), (7, .ref [11] 1 0 0), (8, .own [8] (0 + l.length)), (9, (AV.list 1 (List.map (fun x => [AV.int .i64 x]) (plA r l)))), (10, .bool (okR r l)), (11, (AV.list 1 (List.map (fun x => [AV.int .i64 x]) (plA r l)))), (12, .bool (okR r l)), (13, .bool (atB r l i)), (14, .bool (atOK r l i)), (15, .ref [43] 1 0 0), (16, .int .i64 k)] ∧
    H = [[([43], .box [.bool (atB r l i), .bool (atOK r l i)]), ([11], .box [(AV.list 2 (List.map eNm (r.names))), (AV.list 3 (List.map eRl (r.list))), .bool r.els]), ([8], .row false true 3 1 (List.map (fun x => [AV.int .i64 x]) l)), ([0], .box [(AV.list 2 (List.map eNm (r.names))), (AV.list 3 (List.map eRl (r.list))), .bool r.els])]] ∧ k ≤ r.list.length) r.list.length ?_ ?_
  · exact ⟨rfl, rfl, by omega⟩
  rintro k e H ⟨rfl, rfl, hk⟩
  by_cases h : k < r.list.length
  · have h' : (k : Int) < (r.list.length : Int) := by omega
    have hp := wrapp (j := k) (by omega)
    have hg := map_get (f := eRl) h default
    have hw : WfL (r.list.getD k default) := wr.list.2 _ (by rw [List.getD_eq_getElem?_getD, List.getElem?_eq_getElem h]; exact List.getElem_mem h)
    generalize r.list.getD k default = x at hg hw
    have e1 := fun q H => e1236 x l i ⟨hw, ro⟩ q H
    have e2 := fun q H => e1237 x l i ⟨hw, ro⟩ q H
    generalize tellsB x l i = tb at e1 e2
    simp only [D0, SP0, seval, -Int.reduceNatCast', @use_all o4 19 k1236.ora rfl, e1, @use_all o4 20 k1237.ora rfl, e2, h', hp, hg, hz, eRl, bne_self', fz_rules, fz, fzd, fzd.fzcells, lrc_y, lrc_n, lrc_x, apx, apart, apart1, needs, keeps, decide_true, Int.natCast_nonneg, Int.toNat_natCast, List.length_map]
    simp only [F1, SF0, SP0, seval, -Int.reduceNatCast']
    exact ⟨h, h⟩
  · have h' : ¬ (k : Int) < (r.list.length : Int) := by omega
    simp only [D0, SP0, seval, -Int.reduceNatCast', h', decide_false]
    refine .inr ⟨by simp, ?_⟩
    simp only [D0, SP0, seval, -Int.reduceNatCast', @use_all o4 21 k1238.ora rfl, e1238, @use_all o4 18 k1023.ora rfl, e1023, @use_all o4 12 kW.ora rfl, eW, lo, wl.1, hz, same, fz_rules, fz, fzd, fzd.fzcells, decide_true, List.length_map]
    simp only [F1, SF0, SP0, seval, -Int.reduceNatCast', fn1221_res, fn1221_keep]
end Go.Proofs.Abs
