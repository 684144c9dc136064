/- A part of a proof: the text that states the row tells what is proved. No condition is laid on anything. -/
import Derived.Test.YtgcncpedpjjjeaaAbsM3
set_option linter.all false
set_option linter.constructorNameAsVariable false
set_option linter.defProp false
set_option linter.unusedVariables false
set_option linter.unusedSimpArgs false
set_option maxRecDepth 100000
namespace Go.Proofs.Abs
open Go
/-! ### What is put together plainly, or that it is too large -/
def joinO (k : Int) (a b : Tr) : Option Tr := if sz a + sz b + 1 ≤ 40000 then some (if k = 3 then .cat a b else .alt a b) else none
def starJ (a : Tr) : Option Tr := if sz a + 1 ≤ 40000 then some (.star a) else none
def cat1 (a b : Tr) : Option Tr := if rk a = 0 ∨ rk b = 0 then some never else if rk a = 1 then some b else if rk b = 1 then some a else joinO 3 a b
def catO (a : Tr) : Tr → Option Tr
  | .cat x y => if rk a = 0 then some never else if rk a = 1 then some (.cat x y) else (catO a x).bind fun c => catO c y
  | b => cat1 a b
def altsO : Tr → List Tr → Option Tr
  | x, [] => some x
  | x, y :: r => (joinO 4 x y).bind fun c => altsO c r
def altLO : List Tr → Option Tr
  | [] => none
  | x :: r => altsO x r
def altO (a b : Tr) : Option Tr := if rk a = 0 then some b else if rk b = 0 then some a else altLO (onceT (mems a ++ mems b))
def star1O (a : Tr) : Option Tr := if rk a = 0 ∨ rk a = 1 then some empty else if rk a = 5 then some a else starJ a
def starO (a : Tr) : Option Tr := if rk a = 4 then (if rk (fullT a) = 4 then starJ (fullT a) else star1O (fullT a)) else star1O a
def encO : Option Tr → List Nd
  | some x => enc x
  | none => []
def resO (o : Option Tr) : AV := .tuple [(AV.list 5 (List.map eNd (encO o))), .bool o.isSome]
noncomputable def catT (a b : List Nd) : Option Tr := if goodT a && goodT b then catO (dec a) (dec b) else none
noncomputable def altT (a b : List Nd) : Option Tr := if goodT a && goodT b then altO (dec a) (dec b) else none
noncomputable def starS (a : List Nd) : Option Tr := if goodT a then starO (dec a) else none
noncomputable def cleanS (a : List Nd) : Option Tr := if goodT a then some (sClean (dec a)) else none
theorem catT_enc {x y : Tr} (hx : OkS x) (hy : OkS y) : catT (enc x) (enc y) = catO x y := by simp [catT, hx.good, hy.good, hx.dec, hy.dec]
theorem altT_enc {x y : Tr} (hx : OkS x) (hy : OkS y) : altT (enc x) (enc y) = altO x y := by simp [altT, hx.good, hy.good, hx.dec, hy.dec]
theorem starS_enc {x : Tr} (hx : OkS x) : starS (enc x) = starO x := by simp [starS, hx.good, hx.dec]
theorem cleanS_enc {x : Tr} (hx : OkS x) : cleanS (enc x) = some (sClean x) := by simp [cleanS, hx.good, hx.dec]
theorem catT_no {a b : List Nd} (h : goodT a = false ∨ goodT b = false) : catT a b = none := by rcases h with h | h <;> simp [catT, h]
theorem altT_no {a b : List Nd} (h : goodT a = false ∨ goodT b = false) : altT a b = none := by rcases h with h | h <;> simp [altT, h]
theorem encO_join {k : Int} (hk : k = 3 ∨ k = 4) {a b : Tr} (ha : OkS a) (hb : OkS b) : pairT k (enc a) (enc b) = encO (joinO k a b) ∧ pairB (enc a) (enc b) = (joinO k a b).isSome := by
  have hB : pairB (enc a) (enc b) = decide (sz a + sz b + 1 ≤ 40000) := by simp [pairB, ha.good, hb.good, enc_len]
  unfold pairT joinO
  rw [hB]
  by_cases h : sz a + sz b + 1 ≤ 40000
  · rcases hk with rfl | rfl <;> simp [h, encO, enc]
  · simp [h, encO]
theorem encO_star {a : Tr} (ha : OkS a) : starTT (enc a) = encO (starJ a) ∧ starB (enc a) = (starJ a).isSome := by
  have hB : starB (enc a) = decide (sz a + 1 ≤ 40000) := by simp [starB, ha.good, enc_len]
  unfold starTT starJ
  rw [hB]
  by_cases h : sz a + 1 ≤ 40000
  · simp [h, encO, enc]
  · simp [h, encO]
theorem ok_joinO {k : Int} {a b c : Tr} (ha : OkS a) (hb : OkS b) (h : joinO k a b = some c) : OkS c := by
  unfold joinO at h
  split at h
  · rename_i hs
    injection h with h
    subst h
    split
    · exact ⟨⟨ha.1, hb.1⟩, hs⟩
    · exact ⟨⟨ha.1, hb.1⟩, hs⟩
  · cases h
theorem okS_never : OkS never := ⟨ok_never, by simp [sz]⟩
theorem okS_empty : OkS empty := ⟨ok_empty, by simp [sz]⟩
theorem OkS.c {a b : Tr} (h : OkS (.cat a b)) : OkS a ∧ OkS b := by
  obtain ⟨⟨h1, h2⟩, h3⟩ := h
  simp only [sz] at h3
  exact ⟨⟨h1, by omega⟩, h2, by omega⟩
theorem OkS.s {a : Tr} (h : OkS (.star a)) : OkS a := by
  obtain ⟨h1, h3⟩ := h
  simp only [sz] at h3
  exact ⟨h1, by omega⟩
theorem OkS.partsC {a b : Tr} (h : OkS (.cat a b)) : partOK (enc (.cat a b)) = true ∧ partA (enc (.cat a b)) = enc a ∧ partB (enc (.cat a b)) = enc b :=
  parts_join (.inl rfl) h.c.1.good h.c.2.good (by rw [enc_len, enc_len]; exact h.2)
theorem ok_cat1 {a b c : Tr} (ha : OkS a) (hb : OkS b) (h : cat1 a b = some c) : OkS c := by
  unfold cat1 at h
  split at h
  · injection h with h; subst h; exact okS_never
  split at h
  · injection h with h; subst h; exact hb
  split at h
  · injection h with h; subst h; exact ha
  exact ok_joinO ha hb h
theorem ok_catO : ∀ {b a c : Tr}, OkS a → OkS b → catO a b = some c → OkS c
  | .leaf n, a, c, ha, hb, h => ok_cat1 ha hb h
  | .alt x y, a, c, ha, hb, h => ok_cat1 ha hb h
  | .star x, a, c, ha, hb, h => ok_cat1 ha hb h
  | .cat x y, a, c, ha, hb, h => by
    simp only [catO] at h
    split at h
    · injection h with h; subst h; exact okS_never
    split at h
    · injection h with h; subst h; exact hb
    · cases e : catO a x with
      | none => rw [e] at h; cases h
      | some d => rw [e] at h; exact ok_catO (ok_catO ha hb.c.1 e) hb.c.2 h
theorem catO_no {a b : Tr} (h : rk b ≠ 3) : catO a b = cat1 a b := by
  cases b with
  | cat => exact absurd rfl h
  | _ => rfl
theorem catO_some : ∀ (b a : Tr), sz a + sz b + 1 ≤ 40000 → catO a b = some (sCat a b)
  | .leaf n, a, h => by
    simp only [catO, cat1, sCat, joinO, h, if_true, rk]
    (repeat' split) <;> first | rfl | simp_all
  | .alt x y, a, h => by
    simp only [catO, cat1, sCat, joinO, h, if_true, rk]
    (repeat' split) <;> first | rfl | simp_all
  | .star x, a, h => by
    simp only [catO, cat1, sCat, joinO, h, if_true, rk]
    (repeat' split) <;> first | rfl | simp_all
  | .cat x y, a, h => by
    simp only [sz] at h
    simp only [catO, sCat]
    have h1 := catO_some x a (by omega)
    have := sz_sCat x a
    have h2 := catO_some y (sCat a x) (by omega)
    rw [h1]
    (repeat' split) <;> first | rfl | exact h2
theorem altsO_some : ∀ (r : List Tr) (x : Tr), sz (r.foldl .alt x) ≤ 40000 → altsO x r = some (r.foldl .alt x)
  | [], x, h => rfl
  | y :: r, x, h => by
    have h1 := h
    rw [List.foldl_cons] at h
    have h3 := sz_foldl_alt r (.alt x y)
    simp only [sz] at h3
    have : joinO 4 x y = some (.alt x y) := by simp [joinO]; omega
    simp only [altsO, this, List.foldl_cons]
    exact altsO_some r _ h
theorem altsO_none : ∀ (r : List Tr) (x : Tr), sz x ≤ 40000 → 40000 < sz (r.foldl .alt x) → altsO x r = none
  | [], x, h, h1 => by simp only [List.foldl_nil] at h1; omega
  | y :: r, x, h, h1 => by
    simp only [altsO]
    by_cases h2 : sz x + sz y + 1 ≤ 40000
    · have : joinO 4 x y = some (.alt x y) := by simp [joinO, h2]
      rw [this]
      exact altsO_none r _ (by simp only [sz]; exact h2) h1
    · have : joinO 4 x y = none := by simp [joinO, h2]
      rw [this]; rfl
theorem ok_altsO : ∀ (r : List Tr) (x : Tr) {c : Tr}, OkS x → (∀ y ∈ r, OkS y) → altsO x r = some c → OkS c
  | [], x, c, hx, _, h => by injection h with h; subst h; exact hx
  | y :: r, x, c, hx, hr, h => by
    simp only [altsO] at h
    cases e : joinO 4 x y with
    | none => rw [e] at h; cases h
    | some d => rw [e] at h; exact ok_altsO r d (ok_joinO hx (hr y (by simp)) e) (fun z hz => hr z (by simp [hz])) h
theorem OkS.mems {x : Tr} (h : OkS x) : ∀ y ∈ mems x, OkS y := fun y hy => ⟨ok_mems x h.1 y hy, by
  have h1 := sumS_mems x
  have h2 : sumS [y] ≤ sumS (Abs.mems x) := sumS_sub (List.singleton_sublist.2 hy)
  simp only [sumS, List.map_cons, List.map_nil, List.sum_cons, List.sum_nil] at h2
  have := h.2
  simp only [sumS] at h1
  omega⟩
theorem ok_altO {a b c : Tr} (ha : OkS a) (hb : OkS b) (h : altO a b = some c) : OkS c := by
  unfold altO at h
  split at h
  · injection h with h; subst h; exact hb
  split at h
  · injection h with h; subst h; exact ha
  have hm : ∀ x ∈ onceT (mems a ++ mems b), OkS x := fun x hx => by
    rcases List.mem_append.1 ((onceT_sub _).subset hx) with h | h
    · exact ha.mems x h
    · exact hb.mems x h
  cases e : onceT (mems a ++ mems b) with
  | nil => rw [e] at h; cases h
  | cons x r => rw [e] at h hm; exact ok_altsO r x (hm x (by simp)) (fun y hy => hm y (by simp [hy])) h
theorem altO_some {a b : Tr} (h : sz a + sz b + 1 ≤ 40000) : altO a b = some (sAlt a b) := by
  have hs := sz_sAlt a b
  unfold altO sAlt at *
  split
  · rfl
  split
  · rfl
  have hne := onceT_ne (l := mems a ++ mems b) (by simp [mems_ne])
  rename_i h1 h2
  rw [if_neg h1, if_neg h2] at hs
  cases e : onceT (mems a ++ mems b) with
  | nil => exact absurd e hne
  | cons x r =>
    rw [e] at hs
    exact altsO_some r x (by simp only [altL] at hs; omega)
theorem star1O_some {a : Tr} (h : sz a + 1 ≤ 40000) : star1O a = some (star1 a) := by
  unfold star1O star1 starJ
  (repeat' split) <;> first | rfl | simp_all
theorem starO_some {a : Tr} (h : sz a + 1 ≤ 40000) : starO a = some (sStar a) := by
  have hf := sz_fullT a
  unfold starO sStar
  rw [star1O_some h, star1O_some (a := fullT a) (by omega)]
  simp only [starJ, show sz (fullT a) + 1 ≤ 40000 by omega, if_true]
  (repeat' split) <;> rfl
theorem OkS.full {a : Tr} (h : OkS a) : OkS (fullT a) := ⟨ok_fullT h.1, by have := sz_fullT a; have := h.2; omega⟩
theorem ok_star1O {a c : Tr} (ha : OkS a) (h : star1O a = some c) : OkS c := by
  unfold star1O at h
  split at h
  · injection h with h; subst h; exact okS_empty
  split at h
  · injection h with h; subst h; exact ha
  unfold starJ at h
  split at h
  · rename_i hs; injection h with h; subst h; exact ⟨ha.1, hs⟩
  · cases h
theorem ok_starO {a c : Tr} (ha : OkS a) (h : starO a = some c) : OkS c := by
  unfold starO at h
  split at h
  · split at h
    · unfold starJ at h
      split at h
      · rename_i hs; injection h with h; subst h; exact ⟨ha.full.1, hs⟩
      · cases h
    · exact ok_star1O ha.full h
  · exact ok_star1O ha h
theorem pure_resO (o : Option Tr) : Pure (resO o) = True := by simp [resO, pure_tuple, pure_treeL, pure_bool]
theorem encO_some {o : Option Tr} {x : Tr} (h : o = some x) : encO o = enc x := by rw [h]; rfl
end Go.Proofs.Abs
