/- A part of a proof: the text that states the row tells what is proved. No condition is laid on anything. -/
import Derived.Test.YtligpalonlliaaaGreatAbsZ19
import Derived.Test.YtligpalonlliaaaGreatAbsV6
import Derived.Test.YtligpalonlliaaaGreatAbsV3
set_option linter.all false
set_option linter.constructorNameAsVariable false
set_option linter.defProp false
set_option linter.unusedVariables false
set_option linter.unusedSimpArgs false
namespace Go.Proofs.Abs
open Go
/-! ### The reference's bands -/
def cntH (P : List (List R2)) (v : Int) (j : Nat) : Nat := ((List.range j).filter fun k => hasS (P.getD k []) v).length
theorem cntH_next (P : List (List R2)) (v : Int) (j : Nat) : cntH P v (j + 1) = cntH P v j + if hasS (P.getD j []) v = true then 1 else 0 := by
  unfold cntH
  rw [List.range_succ, List.filter_append, List.length_append]
  by_cases h : hasS (P.getD j []) v = true
  · rw [if_pos h, List.filter_cons_of_pos (by simpa using h)]; rfl
  · rw [if_neg h, List.filter_cons_of_neg (by simpa using h)]; rfl
theorem cntH_le (P : List (List R2)) (v : Int) (j : Nat) : cntH P v j ≤ j := Nat.le_trans (List.length_filter_le _ _) (by simp)
def clsH (P : List (List R2)) (v : Int) : Nat → Nat
  | 0 => 0
  | j + 1 => if hasS (P.getD j []) v = true then j else clsH P v j
theorem clsH_eq {P : List (List R2)} {v : Int} {c : Nat} (hc : hasS (P.getD c []) v = true) : ∀ j, c < j → (∀ d, d < j → hasS (P.getD d []) v = true → d = c) → clsH P v j = c
  | 0, h, _ => by omega
  | j + 1, h, hu => by
    unfold clsH
    by_cases k : hasS (P.getD j []) v = true
    · rw [if_pos k]; exact hu j (by omega) k
    · rw [if_neg k]
      have : c ≠ j := fun e => k (by rw [← e]; exact hc)
      exact clsH_eq hc j (by omega) fun d hd => hu d (by omega)
theorem cnt_one {P : List (List R2)} {v : Int} {n : Nat} : cntH P v n = 1 ↔ ∃ c, c < n ∧ hasS (P.getD c []) v = true ∧ ∀ d, d < n → hasS (P.getD d []) v = true → d = c := by
  unfold cntH
  constructor
  · intro h
    obtain ⟨c, e⟩ := List.length_eq_one_iff.1 h
    have hm : ∀ d, d ∈ (List.range n).filter (fun k => hasS (P.getD k []) v) ↔ d < n ∧ hasS (P.getD d []) v = true := fun d => by simp [List.mem_filter]
    rw [e] at hm
    have h1 := (hm c).1 (by simp)
    exact ⟨c, h1.1, h1.2, fun d hd k => by simpa using (hm d).2 ⟨hd, k⟩⟩
  · rintro ⟨c, hc, hh, hu⟩
    have hnd : ((List.range n).filter fun k => hasS (P.getD k []) v).Nodup := List.nodup_range.filter _
    have h1 := nodup_subL (m := [c]) hnd fun x hx => by
      obtain ⟨a, b⟩ := List.mem_filter.1 hx
      rw [List.mem_singleton]
      exact hu x (List.mem_range.1 a) b
    have h2 : c ∈ (List.range n).filter fun k => hasS (P.getD k []) v := List.mem_filter.2 ⟨List.mem_range.2 hc, hh⟩
    have h3 := List.length_pos_of_mem h2
    simp only [List.length_singleton] at h1
    omega
def newB (out : List R2) (c : Int) : Bool := decide (out.length = 0) || decide ((out.getD (out.length - 1) (0, 0)).2 ≠ c)
def bR (P : List (List R2)) : List Int → List R2 → Option (List R2)
  | [], out => some out
  | v :: r, out => if cntH P v P.length = 1 then bR P r (if newB out (clsH P v P.length) = true then out ++ [(v, (clsH P v P.length : Int))] else out) else none
def bandsR (P : List (List R2)) : Option (List R2) := if P.all goodS && P.all (fun s => !s.isEmpty) then bR P (startsL P.flatten) [] else none
def cls (P : List (List R2)) (v : Int) : Nat := clsH P v P.length
def edge (P : List (List R2)) (v : Int) : Prop := v = 0 ∨ cls P (prevV v) ≠ cls P v
theorem has_inS {P : List (List R2)} (hg : ∀ s ∈ P, goodS s = true) {q : Nat} (hq : q < P.length) {v : Int} (hv : isS v = true) : hasS (P.getD q []) v = inS v (P.getD q []) := by
  rw [hasS_iff, hg _ (getD_memP hq), hv]; rfl
theorem cls_of {P : List (List R2)} (t : Tile P) {v : Int} {c : Nat} (hv : isS v = true) (hc : c < P.length) (hin : inS v (P.getD c []) = true) : cls P v = c :=
  clsH_eq (by rw [has_inS t.good hc hv]; exact hin) _ hc fun d hd k => by
    rw [has_inS t.good hd hv] at k
    exact t.uniq v d c hv hd hc k hin
theorem cls_in {P : List (List R2)} (t : Tile P) {v : Int} (hv : isS v = true) : cls P v < P.length ∧ inS v (P.getD (cls P v) []) = true := by
  obtain ⟨c, hc, hin⟩ := t.one v hv
  rw [cls_of t hv hc hin]
  exact ⟨hc, hin⟩
/-- All that is told of a scalar is told of where its stretch begins. -/
theorem cls_st {P : List (List R2)} (hg : ∀ s ∈ P, goodS s = true) {i : Nat} (hi : i < (startsL P.flatten).length) {v : Int} (hv : isS v = true) (hI : InSt (startsL P.flatten) i v) : ∀ k, k < P.length → inS v (P.getD k []) = inS ((startsL P.flatten).getD i 0) (P.getD k []) := fun k hk =>
  stretch_in (stt_of hg) hi hI hv fun r hr => List.mem_flatten.2 ⟨_, getD_memP hk, hr⟩
theorem cls_eq_st {P : List (List R2)} (t : Tile P) {i : Nat} (hi : i < (startsL P.flatten).length) {v : Int} (hv : isS v = true) (hI : InSt (startsL P.flatten) i v) : cls P v = cls P ((startsL P.flatten).getD i 0) := by
  have hz := (stt_of t.good).g.is hi
  obtain ⟨h1, h2⟩ := cls_in t hv
  rw [cls_st t.good hi hv hI _ h1] at h2
  exact (cls_of t hz h1 h2).symm
structure BInv (P : List (List R2)) (pre : List Int) (out : List R2) : Prop where
  mem : ∀ v c, (v, c) ∈ out ↔ ∃ j, j < pre.length ∧ pre.getD j 0 = v ∧ c = (cls P v : Int) ∧ (j = 0 ∨ cls P (pre.getD (j - 1) 0) ≠ cls P v)
  last : pre ≠ [] → out ≠ [] ∧ (out.getD (out.length - 1) (0, 0)).2 = (cls P (pre.getD (pre.length - 1) 0) : Int)
  up : out.Pairwise fun a b => a.1 < b.1
theorem getD_app_lt {a b : List Int} {j : Nat} (h : j < a.length) : (a ++ b).getD j 0 = a.getD j 0 := by
  rw [List.getD_eq_getElem?_getD, List.getElem?_append_left h, ← List.getD_eq_getElem?_getD]
theorem bInv_next {P : List (List R2)} {pre : List Int} {v : Int} {out : List R2} (h : BInv P pre out) (hlt : ∀ w ∈ pre, w < v) : BInv P (pre ++ [v]) (if newB out (cls P v) = true then out ++ [(v, (cls P v : Int))] else out) := by
  have hnew : newB out (cls P v) = true ↔ pre.length = 0 ∨ cls P (pre.getD (pre.length - 1) 0) ≠ cls P v := by
    by_cases hp : pre = []
    · have ho : out = [] := by
        cases out with
        | nil => rfl
        | cons x o =>
          obtain ⟨j, hj, _⟩ := (h.mem x.1 x.2).1 (List.mem_cons_self ..)
          rw [hp] at hj; simp at hj
      simp [newB, hp, ho]
    · obtain ⟨h1, h2⟩ := h.last hp
      have hl : ¬ pre.length = 0 := fun e => hp (List.eq_nil_of_length_eq_zero e)
      have hol : ¬ out.length = 0 := fun e => h1 (List.eq_nil_of_length_eq_zero e)
      unfold newB
      rw [h2]
      simp only [hol, hl, decide_false, Bool.false_or, decide_eq_true_eq, false_or]
      omega
  have hlast : (pre ++ [v]).getD pre.length 0 = v := by simp
  have hold : ∀ j, j < pre.length → (pre ++ [v]).getD j 0 = pre.getD j 0 := fun j hj => getD_app_lt hj
  have hmem : ∀ w c, (∃ j, j < (pre ++ [v]).length ∧ (pre ++ [v]).getD j 0 = w ∧ c = (cls P w : Int) ∧ (j = 0 ∨ cls P ((pre ++ [v]).getD (j - 1) 0) ≠ cls P w)) ↔ ((w, c) ∈ out ∨ (newB out (cls P v) = true ∧ w = v ∧ c = (cls P v : Int))) := by
    intro w c
    rw [h.mem w c, hnew]
    constructor
    · rintro ⟨j, hj, e, ec, k⟩
      by_cases hjp : j = pre.length
      · subst hjp
        rw [hlast] at e
        subst e
        right
        refine ⟨?_, rfl, ec⟩
        rcases k with k | k
        · exact .inl k
        · by_cases h0 : pre.length = 0
          · exact .inl h0
          · rw [hold _ (by omega)] at k
            exact .inr k
      · have hj2 : j < pre.length := by simp at hj; omega
        left
        refine ⟨j, hj2, by rw [← hold j hj2]; exact e, ec, ?_⟩
        rcases k with k | k
        · exact .inl k
        · rw [hold _ (by omega)] at k
          exact .inr k
    · rintro (⟨j, hj, e, ec, k⟩ | ⟨k, rfl, ec⟩)
      · refine ⟨j, by simp; omega, by rw [hold j hj]; exact e, ec, ?_⟩
        rcases k with k | k
        · exact .inl k
        · rw [hold _ (by omega)]
          exact .inr k
      · refine ⟨pre.length, by simp, hlast, ec, ?_⟩
        rcases k with k | k
        · exact .inl k
        · by_cases h0 : pre.length = 0
          · exact .inl h0
          · rw [hold _ (by omega)]
            exact .inr k
  have hfst : ∀ x ∈ out, x.1 < v := fun x hx => by
    obtain ⟨j, hj, e, _⟩ := (h.mem x.1 x.2).1 hx
    rw [← e]
    exact hlt _ (by rw [getD_int hj]; exact List.getElem_mem hj)
  by_cases hn : newB out (cls P v) = true
  · rw [if_pos hn]
    refine ⟨fun w c => ?_, fun _ => ⟨by simp, by simp⟩, ?_⟩
    · rw [hmem w c]
      simp [hn]
    · rw [List.pairwise_append]
      exact ⟨h.up, by simp, fun a ha b hb => by rw [List.mem_singleton.1 hb]; exact hfst a ha⟩
  · rw [if_neg hn]
    refine ⟨fun w c => ?_, fun _ => ?_, h.up⟩
    · rw [hmem w c]
      simp [hn]
    · rw [hnew] at hn
      have hp : pre ≠ [] := fun e => hn (.inl (by rw [e]; rfl))
      have hne : cls P (pre.getD (pre.length - 1) 0) = cls P v := Classical.byContradiction fun k => hn (.inr k)
      obtain ⟨h1, h2⟩ := h.last hp
      refine ⟨h1, ?_⟩
      rw [h2, hne, List.length_append, List.length_singleton, Nat.add_sub_cancel, hlast]
theorem bR_tile {P : List (List R2)} (t : Tile P) : ∀ (r pre : List Int) (out : List R2), (∀ v ∈ r, isS v = true) → (pre ++ r).Pairwise (· < ·) → BInv P pre out → ∃ out', bR P r out = some out' ∧ BInv P (pre ++ r) out'
  | [], pre, out, _, _, h => ⟨out, rfl, by simpa using h⟩
  | v :: r, pre, out, hs, hp, h => by
    have hv := hs v (List.mem_cons_self ..)
    obtain ⟨c, hc, hin⟩ := t.one v hv
    have h1 : cntH P v P.length = 1 := cnt_one.2 ⟨c, hc, by rw [has_inS t.good hc hv]; exact hin, fun d hd k => by
      rw [has_inS t.good hd hv] at k
      exact t.uniq v d c hv hd hc k hin⟩
    have hlt : ∀ w ∈ pre, w < v := fun w hw => (List.pairwise_append.1 hp).2.2 w hw v (List.mem_cons_self ..)
    have hn := bInv_next h hlt
    have hp2 : ((pre ++ [v]) ++ r).Pairwise (· < ·) := by simpa using hp
    obtain ⟨o, e, ho⟩ := bR_tile t r (pre ++ [v]) _ (fun w hw => hs w (List.mem_cons_of_mem _ hw)) hp2 hn
    refine ⟨o, ?_, by simpa using ho⟩
    unfold bR
    rw [if_pos h1]
    exact e
theorem ofU_some {b : List R2} {v : Int} : ∀ {n : Nat} {c : Int}, ofU b v n = some c → ∃ i, i < n ∧ (b.getD i (0, 0)).1 ≤ v ∧ c = (b.getD i (0, 0)).2 ∧ ∀ j, i < j → j < n → v < (b.getD j (0, 0)).1
  | 0, c, h => by cases h
  | n + 1, c, h => by
    unfold ofU at h
    split at h
    · rename_i k
      simp only [Option.some.injEq] at h
      exact ⟨n, by omega, k, h.symm, fun j h1 h2 => by omega⟩
    · rename_i k
      obtain ⟨i, h1, h2, h3, h4⟩ := ofU_some h
      exact ⟨i, by omega, h2, h3, fun j h5 h6 => by
        by_cases e : j = n
        · subst e; omega
        · exact h4 j h5 (by omega)⟩
theorem bands_up {P : List (List R2)} {b : List R2} (h : BandsOf P b) : ∀ d i, i + d + 1 < b.length → (b.getD i (0, 0)).1 < (b.getD (i + d + 1) (0, 0)).1
  | 0, i, hi => (h.up i hi).1
  | d + 1, i, hi => by
    have h1 := bands_up h d i (by omega)
    have h2 := (h.up (i + d + 1) (by omega)).1
    have e : i + (d + 1) + 1 = i + d + 1 + 1 := by omega
    rw [e]
    omega
theorem bands_lt {P : List (List R2)} {b : List R2} (h : BandsOf P b) {i j : Nat} (hij : i < j) (hj : j < b.length) : (b.getD i (0, 0)).1 < (b.getD j (0, 0)).1 := by
  have := bands_up h (j - i - 1) i (by omega)
  have e : i + (j - i - 1) + 1 = j := by omega
  rw [e] at this
  exact this
theorem bands_mem {P : List (List R2)} {b : List R2} (t : Tile P) (h : BandsOf P b) (v c : Int) : (v, c) ∈ b ↔ isS v = true ∧ c = (cls P v : Int) ∧ edge P v := by
  have hof : ∀ w, isS w = true → ofU b w b.length = some (cls P w : Int) := fun w hw => by
    obtain ⟨c, h1, h2, h3⟩ := h.of w hw
    rw [cls_of t hw h2 h3]
    simpa [ofBd, hw] using h1
  constructor
  · intro hm
    obtain ⟨i, hi, e⟩ := List.getElem_of_mem hm
    have eg : b.getD i (0, 0) = (v, c) := by rw [getD_eq hi]; exact e
    obtain ⟨q, hq, hql, hs, hin⟩ := h.cls i hi
    rw [eg] at hq hs hin
    simp only at hq hs hin
    have hcl := cls_of t hs hql hin
    refine ⟨hs, by rw [hcl]; exact hq, ?_⟩
    by_cases i0 : i = 0
    · subst i0
      left
      have := h.zero
      rw [eg] at this
      exact this
    · right
      have h1 := bands_lt h (i := i - 1) (j := i) (by omega) hi
      rw [eg] at h1
      simp only at h1
      obtain ⟨q2, hq2, hql2, hs2, hin2⟩ := h.cls (i - 1) (by omega)
      have hn0 : 0 ≤ (b.getD (i - 1) (0, 0)).1 := by have := isS_iff.1 hs2; omega
      obtain ⟨p1, p2, p3, p4⟩ := prevV_facts hs (by omega)
      have hle := (p4 _ hs2).1 h1
      have hget := ofU_get (b := b) (v := prevV v) (i := i - 1) b.length (by omega) hle fun j hj1 hj2 => by
        by_cases ej : j = i
        · subst ej; rw [eg]; exact p2
        · have := bands_lt h (i := i) (j := j) (by omega) hj2
          rw [eg] at this
          simp only at this
          omega
      rw [hof _ p1] at hget
      have hne := (h.up (i - 1) (by omega)).2
      have e1 : i - 1 + 1 = i := by omega
      rw [e1, eg] at hne
      simp only [Option.some.injEq] at hget
      intro k
      rw [k, hcl] at hget
      exact hne (by rw [← hget, hq])
  · rintro ⟨hs, rfl, he⟩
    obtain ⟨i, hi, hle, hc, hgt⟩ := ofU_some (hof v hs)
    obtain ⟨q2, hq2, hql2, hs2, hin2⟩ := h.cls i hi
    by_cases e : (b.getD i (0, 0)).1 = v
    · have : b.getD i (0, 0) = (v, (cls P v : Int)) := Prod.ext e hc.symm
      rw [← this, getD_eq hi]
      exact List.getElem_mem hi
    · have hn0 : 0 ≤ (b.getD i (0, 0)).1 := by have := isS_iff.1 hs2; omega
      obtain ⟨p1, p2, p3, p4⟩ := prevV_facts hs (by omega)
      have hle2 := (p4 _ hs2).1 (by omega)
      have hget := ofU_get (b := b) (v := prevV v) (i := i) b.length hi hle2 fun j hj1 hj2 => by have := hgt j hj1 hj2; omega
      rw [hof _ p1] at hget
      simp only [Option.some.injEq] at hget
      rcases he with he | he
      · omega
      · exact absurd (by omega : cls P (prevV v) = cls P v) he
theorem bandsR_tile {P : List (List R2)} (t : Tile P) : ∃ b, bR P (startsL P.flatten) [] = some b ∧ bandsO P = some b := by
  have hG := (stt_of t.good).g
  have hst := fun (i : Nat) (hi : i < (startsL P.flatten).length) (v : Int) (hv : isS v = true) (hI : InSt (startsL P.flatten) i v) => cls_eq_st t hi hv hI
  obtain ⟨z0, z00⟩ := hG.pos
  obtain ⟨b, hb, hB, _⟩ := bands_ok t
  obtain ⟨o, ho, hO⟩ := bR_tile t (startsL P.flatten) [] [] hG.sc (by simpa using hG.up) ⟨fun v c => by simp, fun h => absurd rfl h, .nil⟩
  rw [List.nil_append] at hO
  refine ⟨b, ?_, hb⟩
  rw [ho]
  congr 1
  have bup : b.Pairwise fun x y => x.1 < y.1 := by
    rw [List.pairwise_iff_getElem]
    intro i j hi hj hij
    have := bands_lt hB hij hj
    rw [getD_eq hi, getD_eq hj] at this
    exact this
  generalize startsL P.flatten = z at *
  refine sorted_extL (fun x => x.1) hO.up bup fun x => ?_
  obtain ⟨v, c⟩ := x
  rw [hO.mem v c, bands_mem t hB v c]
  constructor
  · rintro ⟨j, hj, rfl, hc, k⟩
    have hs := hG.is hj
    refine ⟨hs, hc, ?_⟩
    by_cases j0 : j = 0
    · left; rw [j0]; exact z00
    · right
      have hlt := hG.lt (i := j - 1) (j := j) (by omega) hj
      have hs2 := hG.is (i := j - 1) (by omega)
      have hn0 : 0 ≤ z.getD (j - 1) 0 := by have := isS_iff.1 hs2; omega
      obtain ⟨p1, p2, p3, p4⟩ := prevV_facts hs (by omega)
      have e1 : j - 1 + 1 = j := by omega
      rw [hst (j - 1) (by omega) _ p1 ⟨(p4 _ hs2).1 hlt, fun _ => by rw [e1]; exact p2⟩]
      rcases k with k | k
      · exact absurd k j0
      · exact k
  · rintro ⟨hs, hc, he⟩
    obtain ⟨i, hi, hI⟩ := hG.find hs
    have hzs := hG.is hi
    have hei : z.getD i 0 = v := by
      refine Classical.byContradiction fun hne => ?_
      have hlt : z.getD i 0 < v := by have := hI.1; omega
      have hn0 : 0 ≤ z.getD i 0 := by have := isS_iff.1 hzs; omega
      obtain ⟨p1, p2, p3, p4⟩ := prevV_facts hs (by omega)
      have e1 := hst i hi _ p1 ⟨(p4 _ hzs).1 hlt, fun k => by have := hI.2 k; omega⟩
      have e2 := hst i hi _ hs hI
      rcases he with he | he
      · omega
      · exact he (by rw [e1, e2])
    refine ⟨i, hi, hei, hc, ?_⟩
    by_cases i0 : i = 0
    · exact .inl i0
    · right
      have hlt := hG.lt (i := i - 1) (j := i) (by omega) hi
      have hs2 := hG.is (i := i - 1) (by omega)
      have hn0 : 0 ≤ z.getD (i - 1) 0 := by have := isS_iff.1 hs2; omega
      rw [hei] at hlt
      obtain ⟨p1, p2, p3, p4⟩ := prevV_facts hs (by omega)
      have e1 : i - 1 + 1 = i := by omega
      have e2 := hst (i - 1) (by omega) _ p1 ⟨(p4 _ hs2).1 hlt, fun _ => by rw [e1, hei]; exact p2⟩
      rcases he with he | he
      · omega
      · rw [← e2]; exact he
/-! ### No bands: no parts -/
theorem bR_some {P : List (List R2)} : ∀ {r : List Int} {out b : List R2}, bR P r out = some b → ∀ v ∈ r, cntH P v P.length = 1
  | [], _, _, _, v, hv => by cases hv
  | x :: r, out, b, h, v, hv => by
    unfold bR at h
    split at h
    · rename_i k
      rcases List.mem_cons.1 hv with rfl | hv
      · exact k
      · exact bR_some h v hv
    · cases h
theorem tile_of_bR {P : List (List R2)} (hg : ∀ s ∈ P, goodS s = true) (hne : ∀ s ∈ P, s ≠ []) {b : List R2} (h : bR P (startsL P.flatten) [] = some b) : Tile P := by
  have hG := (stt_of hg).g
  have key : ∀ v, isS v = true → ∃ c, c < P.length ∧ inS v (P.getD c []) = true ∧ ∀ d, d < P.length → inS v (P.getD d []) = true → d = c := fun v hv => by
    obtain ⟨i, hi, hI⟩ := hG.find hv
    have hz := hG.is hi
    have hmem : (startsL P.flatten).getD i 0 ∈ startsL P.flatten := by rw [getD_int hi]; exact List.getElem_mem hi
    obtain ⟨c, hc, h1, h2⟩ := cnt_one.1 (bR_some h _ hmem)
    rw [has_inS hg hc hz] at h1
    refine ⟨c, hc, by rw [cls_st hg hi hv hI c hc]; exact h1, fun d hd k => h2 d hd ?_⟩
    rw [has_inS hg hd hz, ← cls_st hg hi hv hI d hd]
    exact k
  refine ⟨hg, hne, fun v hv => ?_, fun v i j hv hi hj h1 h2 => ?_⟩
  · obtain ⟨c, hc, h1, _⟩ := key v hv
    exact ⟨c, hc, h1⟩
  · obtain ⟨c, hc, _, h3⟩ := key v hv
    rw [h3 i hi h1, h3 j hj h2]
theorem swp_cover : ∀ (W : List Rg.T3) (out : List R2) (f : Int) (m : Bool) (b : List R2), (∀ x ∈ W, WhT x) → swp W out f m = some b →
    (m = true → ∀ v, isS v = true → f ≤ v → ∃ x ∈ W, x.1 ≤ v ∧ v ≤ x.2.1) ∧ W.Pairwise (fun x y => x.2.1 < y.1)
  | [], out, f, m, b, _, h => by
    cases m with
    | true => simp [swp] at h
    | false => exact ⟨fun k => by (cases k), .nil⟩
  | x :: r, out, f, m, b, hw, h => by
    have h0 := h
    simp only [swp] at h
    split at h
    · rename_i hc
      obtain ⟨_, hxf⟩ := hc
      have hwr : ∀ y ∈ r, WhT y := fun y hy => hw y (List.mem_cons_of_mem _ hy)
      obtain ⟨p, q⟩ := swp_cover r _ _ _ b hwr h
      have q2 := (swp_up r _ _ _ b hwr h).2
      obtain ⟨w1, w2, w3⟩ := hw x (List.mem_cons_self ..)
      refine ⟨fun _ v hv hf => ?_, List.pairwise_cons.2 ⟨fun y hy => ?_, q⟩⟩
      · by_cases k : v ≤ x.2.1
        · exact ⟨x, List.mem_cons_self .., by omega, k⟩
        · have hv1 := isS_iff.1 hv
          have hm : nextB x.2.1 = true := by simp only [nextB, decide_eq_true_eq]; omega
          obtain ⟨y, hy, hy2⟩ := p hm v hv (nextV_le hv (by omega))
          exact ⟨y, List.mem_cons_of_mem _ hy, hy2⟩
      · have hm : nextB x.2.1 = true := by
          cases r with
          | nil => cases hy
          | cons z r' =>
            cases e : nextB x.2.1 with
            | true => rfl
            | false => rw [e] at h; simp [swp] at h
        have := nextV_gt (by simpa [nextB] using hm : x.2.1 < 1114111)
        have := q2 y hy
        omega
    · cases h
theorem tile_of_bands {P : List (List R2)} {b : List R2} (h : bandsO P = some b) : Tile P := by
  unfold bandsO at h
  split at h
  · rename_i hg
    simp only [Bool.and_eq_true, List.all_eq_true] at hg
    obtain ⟨hg, hne⟩ := hg
    have hne : ∀ s ∈ P, s ≠ [] := fun s hs e => by have := hne s hs; rw [e] at this; simp at this
    have hperm := Rg.sortT_perm (stL P)
    have hwh : ∀ x ∈ Rg.sortT (stL P), WhT x := fun x hx => stL_wh hg x (hperm.mem_iff.1 hx)
    obtain ⟨h1, h2⟩ := swp_cover _ _ _ _ b hwh h
    have h1 := h1 rfl
    generalize Rg.sortT (stL P) = W at *
    refine ⟨hg, hne, fun v hv => ?_, fun v i j hv hi hj k1 k2 => ?_⟩
    · have := isS_iff.1 hv
      obtain ⟨x, hx, k1, k2⟩ := h1 v hv (by omega)
      obtain ⟨q, hq, hr, _⟩ := mem_stL.1 (hperm.mem_iff.1 hx)
      exact ⟨q, hq, inS_iff.2 ⟨_, hr, k1, k2⟩⟩
    · obtain ⟨r1, hr1, a1, a2⟩ := inS_iff.1 k1
      obtain ⟨r2, hr2, b1, b2⟩ := inS_iff.1 k2
      have m1 : ((r1.1, r1.2, (i : Int)) : Rg.T3) ∈ W := hperm.mem_iff.2 (mem_stL.2 ⟨i, hi, hr1, rfl⟩)
      have m2 : ((r2.1, r2.2, (j : Int)) : Rg.T3) ∈ W := hperm.mem_iff.2 (mem_stL.2 ⟨j, hj, hr2, rfl⟩)
      obtain ⟨n1, hn1, e1⟩ := List.getElem_of_mem m1
      obtain ⟨n2, hn2, e2⟩ := List.getElem_of_mem m2
      rw [List.pairwise_iff_getElem] at h2
      rcases Nat.lt_trichotomy n1 n2 with k | k | k
      · have := h2 n1 n2 hn1 hn2 k
        rw [e1, e2] at this
        simp only at this
        omega
      · subst k
        rw [e1] at e2
        have : (i : Int) = (j : Int) := congrArg (fun x : Rg.T3 => x.2.2) e2
        omega
      · have := h2 n2 n1 hn2 hn1 k
        rw [e1, e2] at this
        simp only at this
        omega
  · cases h
theorem bandsR_eq (P : List (List R2)) : bandsR P = bandsO P := by
  by_cases hg : (P.all goodS && P.all (fun s => !s.isEmpty)) = true
  · have e : bandsR P = bR P (startsL P.flatten) [] := by unfold bandsR; rw [if_pos hg]
    rw [e]
    simp only [Bool.and_eq_true, List.all_eq_true] at hg
    obtain ⟨hg, hne⟩ := hg
    have hne : ∀ s ∈ P, s ≠ [] := fun s hs e => by have := hne s hs; rw [e] at this; simp at this
    by_cases t : Tile P
    · obtain ⟨b, h1, h2⟩ := bandsR_tile t
      rw [h1, h2]
    · cases h1 : bR P (startsL P.flatten) [] with
      | some b => exact absurd (tile_of_bR hg hne h1) t
      | none =>
        cases h2 : bandsO P with
        | some b => exact absurd (tile_of_bands h2) t
        | none => rfl
  · unfold bandsR bandsO
    rw [if_neg hg, if_neg hg]
end Go.Proofs.Abs

set_option linter.all false
set_option linter.constructorNameAsVariable false
set_option linter.defProp false
set_option linter.unusedVariables false
set_option linter.unusedSimpArgs false
namespace Go.Proofs.Abs
open Go
/-! ### The reference's Within and Of -/
theorem countP_sub {α : Type} {p q : α → Bool} : ∀ {l : List α}, (∀ x ∈ l, p x = true → q x = true) → l.countP p = l.countP q → ∀ x ∈ l, q x = true → p x = true
  | [], _, _, x, hx, _ => by cases hx
  | y :: l, h, he, x, hx, hq => by
    have hl : ∀ x ∈ l, p x = true → q x = true := fun x hx => h x (List.mem_cons_of_mem _ hx)
    have hle := List.countP_mono_left hl
    have hy := h y (List.mem_cons_self ..)
    cases ep : p y with
    | true =>
      rw [List.countP_cons_of_pos ep, List.countP_cons_of_pos (hy ep)] at he
      rcases List.mem_cons.1 hx with rfl | hx
      · exact ep
      · exact countP_sub hl (by omega) x hx hq
    | false =>
      have ep' : ¬ p y = true := by rw [ep]; simp
      rw [List.countP_cons_of_neg ep'] at he
      cases eq : q y with
      | true => rw [List.countP_cons_of_pos eq] at he; omega
      | false =>
        have eq' : ¬ q y = true := by rw [eq]; simp
        rw [List.countP_cons_of_neg eq'] at he
        rcases List.mem_cons.1 hx with rfl | hx
        · rw [eq] at hq; cases hq
        · exact countP_sub hl he x hx hq
theorem size_eq_iff {s p : List R2} (hs : goodS s = true) (hp : goodS p = true) : sizeS (bothS s p) = sizeS p ↔ bothS s p = p := by
  obtain ⟨b1, b2⟩ := both_good hs hp
  obtain ⟨N, hN⟩ : ∃ N : Nat, N = 1114112 := ⟨_, rfl⟩
  constructor
  · intro h
    rw [sizeS_card ((gdL_iff _).2 b1) N hN, sizeS_card hp N hN] at h
    have h : cardS N (fun v => inS v (bothS s p)) = cardS N (fun v => inS v p) := by omega
    unfold cardS at h
    have hsub := countP_sub (l := scal N) (p := fun n : Nat => isS (n : Int) && inS (n : Int) (bothS s p)) (q := fun n : Nat => isS (n : Int) && inS (n : Int) p) (fun x _ hx => by
      simp only [Bool.and_eq_true] at hx ⊢
      exact ⟨hx.1, inS_iff.2 ((b2 _).1 (inS_iff.1 hx.2)).2⟩) h
    refine gdL_ext b1 ((gdL_iff _).1 hp) fun v hv => ⟨fun k => ((b2 v).1 k).2, fun k => ?_⟩
    have hv2 := isS_iff.1 hv
    have := hsub v.toNat (by unfold scal; rw [List.mem_range]; omega) (by
      have e : ((v.toNat : Nat) : Int) = v := by omega
      rw [e, hv, inS_iff.2 k]; rfl)
    have e : ((v.toNat : Nat) : Int) = v := by omega
    rw [e, hv, Bool.true_and] at this
    exact inS_iff.1 this
  · intro h; rw [h]
theorem size_pos_iff {s : List R2} (hs : goodS s = true) : 0 < sizeS s ↔ ¬ s.length = 0 := by
  obtain ⟨N, hN⟩ : ∃ N : Nat, N = 1114112 := ⟨_, rfl⟩
  rw [sizeS_card hs N hN]
  constructor
  · intro h e
    have e := List.eq_nil_of_length_eq_zero e
    subst e
    have : cardS N (fun v => inS v ([] : List R2)) = 0 := card_false fun v _ => rfl
    omega
  · intro h
    obtain ⟨v, hv, hin, _⟩ := first_in hs fun e => h (by rw [e]; rfl)
    have hv2 := isS_iff.1 hv
    have : 0 < cardS N (fun v => inS v s) := by
      unfold cardS
      rw [List.countP_pos_iff]
      refine ⟨v.toNat, by unfold scal; rw [List.mem_range]; omega, ?_⟩
      have e : ((v.toNat : Nat) : Int) = v := by omega
      rw [e, hv]
      exact hin
    omega
theorem size_nonneg {s : List R2} (hs : goodS s = true) : 0 ≤ sizeS s := by
  rw [sizeS_card hs 1114112 rfl]; omega
/-- What the reference asks of a set and a part. -/
def eqR (s p : List R2) : Bool := decide (sizeS (bothS s p) = sizeS p)
def wOneR (s : List R2) (ps : List (List R2)) (j : Nat) : List Int := ((List.range j).filter fun i => eqR s (ps.getD i [])).map fun (i : Nat) => (i : Int)
def wOkR (s : List R2) (ps : List (List R2)) (j : Nat) : Bool := (List.range j).all fun i => eqR s (ps.getD i []) || !decide (0 < sizeS (bothS s (ps.getD i [])))
theorem eqR_iff {s p : List R2} (hs : goodS s = true) (hp : goodS p = true) : eqR s p = decide (bothS s p = p) := by
  unfold eqR
  rw [decide_eq_decide]
  exact size_eq_iff hs hp
theorem wOneR_eq {s : List R2} {ps : List (List R2)} (hs : goodS s = true) (hp : ∀ p ∈ ps, goodS p = true) : wOneR s ps ps.length = wOne s ps ps.length := by
  unfold wOneR wOne
  congr 1
  apply List.filter_congr
  intro i hi
  exact eqR_iff hs (hp _ (getD_memP (List.mem_range.1 hi)))
theorem wOkR_eq {s : List R2} {ps : List (List R2)} (hs : goodS s = true) (hp : ∀ p ∈ ps, goodS p = true) : wOkR s ps ps.length = wOk s ps ps.length := by
  unfold wOkR wOk
  rw [Bool.eq_iff_iff, List.all_eq_true, List.all_eq_true]
  have key : ∀ i, i ∈ List.range ps.length → (eqR s (ps.getD i []) || !decide (0 < sizeS (bothS s (ps.getD i [])))) = (decide (bothS s (ps.getD i []) = ps.getD i []) || decide ((bothS s (ps.getD i [])).length = 0)) := fun i hi => by
    have hg := hp _ (getD_memP (List.mem_range.1 hi))
    obtain ⟨b1, b2⟩ := both_good hs hg
    rw [eqR_iff hs hg]
    congr 1
    rw [Bool.eq_iff_iff, Bool.not_eq_true', decide_eq_false_iff_not, decide_eq_true_eq, size_pos_iff ((gdL_iff _).2 b1)]
    exact Decidable.not_not
  exact ⟨fun h i hi => by rw [← key i hi]; exact h i hi, fun h i hi => by rw [key i hi]; exact h i hi⟩
theorem wOneR_next (s : List R2) (ps : List (List R2)) (j : Nat) : wOneR s ps (j + 1) = wOneR s ps j ++ if eqR s (ps.getD j []) = true then [(j : Int)] else [] := by
  unfold wOneR
  rw [List.range_succ, List.filter_append, List.map_append]
  congr 1
  by_cases h : eqR s (ps.getD j []) = true
  · rw [if_pos h, List.filter_cons_of_pos (by simpa using h)]; rfl
  · rw [if_neg h, List.filter_cons_of_neg (by simpa using h)]; rfl
theorem wOneR_len (s : List R2) (ps : List (List R2)) (j : Nat) : (wOneR s ps j).length ≤ j := by
  unfold wOneR
  rw [List.length_map]
  exact Nat.le_trans (List.length_filter_le _ _) (by simp)
theorem wOkR_next (s : List R2) (ps : List (List R2)) (j : Nat) : wOkR s ps (j + 1) = (wOkR s ps j && (eqR s (ps.getD j []) || !decide (0 < sizeS (bothS s (ps.getD j []))))) := by
  unfold wOkR
  rw [List.range_succ, List.all_append]
  simp
theorem wOkR_false {s : List R2} {ps : List (List R2)} {j : Nat} (h : j < ps.length) (k : (eqR s (ps.getD j []) || !decide (0 < sizeS (bothS s (ps.getD j [])))) = false) : wOkR s ps ps.length = false := by
  rw [Bool.eq_false_iff]
  intro h2
  unfold wOkR at h2
  rw [List.all_eq_true] at h2
  rw [h2 j (List.mem_range.2 h)] at k
  cases k
/-- What the reference's Of tells. -/
def ofI (b : List R2) (v : Int) : Nat → Int
  | 0 => -1
  | n + 1 => if (b.getD n (0, 0)).1 ≤ v then (n : Int) else ofI b v n
def ofR (b : List R2) (v : Int) : Int := if isS v then ofI b v b.length else -1
theorem ofI_ofU (b : List R2) (v : Int) : ∀ n, (ofU b v n = none ∧ ofI b v n = -1) ∨ ∃ i, i < n ∧ ofU b v n = some (b.getD i (0, 0)).2 ∧ ofI b v n = (i : Int)
  | 0 => .inl ⟨rfl, rfl⟩
  | n + 1 => by
    unfold ofU ofI
    by_cases h : (b.getD n (0, 0)).1 ≤ v
    · rw [if_pos h, if_pos h]
      exact .inr ⟨n, by omega, rfl, rfl⟩
    · rw [if_neg h, if_neg h]
      rcases ofI_ofU b v n with h | ⟨i, h1, h2⟩
      · exact .inl h
      · exact .inr ⟨i, by omega, h2⟩
theorem ofR_ofBd (b : List R2) (v : Int) : (ofBd b v = none ∧ ofR b v = -1) ∨ ∃ i, i < b.length ∧ ofBd b v = some (b.getD i (0, 0)).2 ∧ ofR b v = (i : Int) := by
  unfold ofBd ofR
  cases h : isS v with
  | false => exact .inl ⟨rfl, rfl⟩
  | true =>
    simp only [if_true]
    exact ofI_ofU b v b.length
end Go.Proofs.Abs

set_option linter.all false
set_option linter.constructorNameAsVariable false
set_option linter.defProp false
set_option linter.unusedVariables false
set_option linter.unusedSimpArgs false
set_option maxRecDepth 100000
set_option maxHeartbeats 16000000
namespace Go.Proofs.Abs
open Go
/-! 1015: caesurakeep.Bands. -/
theorem run1015 (a b : List (Int × Int)) (ha : a.length ≤ 9223372036854775807) : cwp r12 17 [] [(AV.list 2 (List.map (fun x => [AV.int .i64 x.1, AV.int .i64 x.2]) (a))), (AV.list 2 (List.map (fun x => [AV.int .i64 x.1, AV.int .i64 x.2]) (b)))] [] (fun r H => r = .bool (decide (a = b)) ∧ H = []) := by
  refine run_fn (fn := fn1015) rfl rfl ?_
  by_cases hl : a.length = b.length
  · have hl' : ((a.length : Int) != (b.length : Int)) = false := by simp [hl]
    simp only [fn1015_body, c1015, D0, ains, appG, clsOf, abin, aint, aun, dnext, rowsOf, loadObj, cellsOf, ofCells, bnd, hmerge, Nat.reduceBEq, Nat.reduceAdd, reduceIte, Nat.reduceEqDiff, Nat.reduceLeDiff, Int.reduceEq, reduceCtorEq, Int.reduceBEq, Int.reduceBNe, Int.reduceLT, Int.reduceNeg, hl']
    refine lg_rule (fun j e H => e = [(0, (AV.list 2 (List.map (fun x => [AV.int .i64 x.1, AV.int .i64 x.2]) (a)))), (1, (AV.list 2 (List.map (fun x => [AV.int .i64 x.1, AV.int .i64 x.2]) (b)))), (4, .bool false), (5, .int .i64 j)] ∧ H = [[]] ∧ j ≤ a.length ∧ ∀ i, i < j → a.getD i (0, 0) = b.getD i (0, 0)) a.length ?_ ?_
    · exact ⟨rfl, rfl, by simp, by simp⟩
    rintro j e H ⟨rfl, rfl, hj, hi⟩
    simp only [D0, ains, appG, clsOf, abin, aint, aun, dnext, rowsOf, loadObj, cellsOf, ofCells, bnd, hmerge, Nat.reduceBEq, Nat.reduceAdd, reduceIte, Nat.reduceEqDiff, Nat.reduceLeDiff, Int.reduceEq, reduceCtorEq, Int.reduceBEq, Int.reduceBNe, Int.reduceLT, Int.reduceNeg]
    by_cases h : j < a.length
    · have h' : (j : Int) < (a.length : Int) := by omega
      have hp := wrapp (j := j) (by omega)
      have hga := map_get (f := fun x : Int × Int => [AV.int .i64 x.1, AV.int .i64 x.2]) h (0, 0)
      have hgb := map_get (f := fun x : Int × Int => [AV.int .i64 x.1, AV.int .i64 x.2]) (l := b) (j := j) (by omega) (0, 0)
      have ne : a.getD j (0, 0) ≠ b.getD j (0, 0) → decide (a = b) = false := fun h1 => by
        rw [decide_eq_false_iff_not]
        intro e
        exact h1 (by rw [e])
      have step : a.getD j (0, 0) = b.getD j (0, 0) → ∀ i, i < j + 1 → a.getD i (0, 0) = b.getD i (0, 0) := fun h1 i h2 => by
        by_cases e : i = j
        · rw [e]; exact h1
        · exact hi i (by omega)
      generalize a.getD j (0, 0) = x at hga ne step
      generalize b.getD j (0, 0) = y at hgb ne step
      obtain ⟨x1, x2⟩ := x
      obtain ⟨y1, y2⟩ := y
      by_cases h1 : x1 = y1
      · by_cases h2 : x2 = y2
        · have st := step (by rw [h1, h2])
          clear ne step hi
          simp only [D0, ains, appG, clsOf, abin, aint, aun, dnext, rowsOf, loadObj, cellsOf, ofCells, bnd, hmerge, Nat.reduceBEq, Nat.reduceAdd, reduceIte, Nat.reduceEqDiff, Nat.reduceLeDiff, Int.reduceEq, reduceCtorEq, Int.reduceBEq, Int.reduceBNe, Int.reduceLT, Int.reduceNeg, h', hga, hgb, abins, acells, h1, h2, hp, decide_true, Int.natCast_nonneg, Int.toNat_natCast]
          simp only [F1, bodyRes, one, ains, appG, clsOf, abin, aint, aun, dnext, rowsOf, loadObj, cellsOf, ofCells, bnd, hmerge, Nat.reduceBEq, Nat.reduceAdd, reduceIte, Nat.reduceEqDiff, Nat.reduceLeDiff, Int.reduceEq, reduceCtorEq, Int.reduceBEq, Int.reduceBNe, Int.reduceLT, Int.reduceNeg]
          exact ⟨h, h, st⟩
        · have ne' := ne (by simp [h2])
          have h2' : (x2 == y2) = false := by simpa using h2
          clear ne step hi
          simp only [D0, ains, appG, clsOf, abin, aint, aun, dnext, rowsOf, loadObj, cellsOf, ofCells, bnd, hmerge, Nat.reduceBEq, Nat.reduceAdd, reduceIte, Nat.reduceEqDiff, Nat.reduceLeDiff, Int.reduceEq, reduceCtorEq, Int.reduceBEq, Int.reduceBNe, Int.reduceLT, Int.reduceNeg, h', hga, hgb, abins, acells, h1, h2', decide_true, Int.natCast_nonneg, Int.toNat_natCast]
          simp only [F1, bodyRes, one, ains, appG, clsOf, abin, aint, aun, dnext, rowsOf, loadObj, cellsOf, ofCells, bnd, hmerge, Nat.reduceBEq, Nat.reduceAdd, reduceIte, Nat.reduceEqDiff, Nat.reduceLeDiff, Int.reduceEq, reduceCtorEq, Int.reduceBEq, Int.reduceBNe, Int.reduceLT, Int.reduceNeg, fn1015_res, fn1015_keep, ne']
      · have ne' := ne (by simp [h1])
        have h1' : (x1 == y1) = false := by simpa using h1
        clear ne step hi
        simp only [D0, ains, appG, clsOf, abin, aint, aun, dnext, rowsOf, loadObj, cellsOf, ofCells, bnd, hmerge, Nat.reduceBEq, Nat.reduceAdd, reduceIte, Nat.reduceEqDiff, Nat.reduceLeDiff, Int.reduceEq, reduceCtorEq, Int.reduceBEq, Int.reduceBNe, Int.reduceLT, Int.reduceNeg, h', hga, hgb, abins, acells, h1', decide_true, Int.natCast_nonneg, Int.toNat_natCast]
        simp only [F1, bodyRes, one, ains, appG, clsOf, abin, aint, aun, dnext, rowsOf, loadObj, cellsOf, ofCells, bnd, hmerge, Nat.reduceBEq, Nat.reduceAdd, reduceIte, Nat.reduceEqDiff, Nat.reduceLeDiff, Int.reduceEq, reduceCtorEq, Int.reduceBEq, Int.reduceBNe, Int.reduceLT, Int.reduceNeg, fn1015_res, fn1015_keep, ne']
    · have h' : ¬ (j : Int) < (a.length : Int) := by omega
      have he : decide (a = b) = true := decide_eq_true (ext_getD (0, 0) hl fun i h1 => hi i (by omega))
      simp only [D0, ains, appG, clsOf, abin, aint, aun, dnext, rowsOf, loadObj, cellsOf, ofCells, bnd, hmerge, Nat.reduceBEq, Nat.reduceAdd, reduceIte, Nat.reduceEqDiff, Nat.reduceLeDiff, Int.reduceEq, reduceCtorEq, Int.reduceBEq, Int.reduceBNe, Int.reduceLT, Int.reduceNeg, h', decide_false]
      refine .inr ⟨by simp, ?_⟩
      simp only [F1, bodyRes, one, ains, appG, clsOf, abin, aint, aun, dnext, rowsOf, loadObj, cellsOf, ofCells, bnd, hmerge, Nat.reduceBEq, Nat.reduceAdd, reduceIte, Nat.reduceEqDiff, Nat.reduceLeDiff, Int.reduceEq, reduceCtorEq, Int.reduceBEq, Int.reduceBNe, Int.reduceLT, Int.reduceNeg, fn1015_res, fn1015_keep, he]
  · have hl' : ((a.length : Int) != (b.length : Int)) = true := by
      simp only [bne_iff_ne, ne_eq]
      omega
    have he : decide (a = b) = false := by
      rw [decide_eq_false_iff_not]
      intro e
      exact hl (by rw [e])
    simp only [fn1015_body, c1015, D0, ains, appG, clsOf, abin, aint, aun, dnext, rowsOf, loadObj, cellsOf, ofCells, bnd, hmerge, Nat.reduceBEq, Nat.reduceAdd, reduceIte, Nat.reduceEqDiff, Nat.reduceLeDiff, Int.reduceEq, reduceCtorEq, Int.reduceBEq, Int.reduceBNe, Int.reduceLT, Int.reduceNeg, hl']
    simp only [F1, bodyRes, one, ains, appG, clsOf, abin, aint, aun, dnext, rowsOf, loadObj, cellsOf, ofCells, bnd, hmerge, Nat.reduceBEq, Nat.reduceAdd, reduceIte, Nat.reduceEqDiff, Nat.reduceLeDiff, Int.reduceEq, reduceCtorEq, Int.reduceBEq, Int.reduceBNe, Int.reduceLT, Int.reduceNeg, fn1015_res, fn1015_keep, he]
noncomputable def k1015 : Kon ((List (Int × Int)) × (List (Int × Int))) := ⟨fun x => x.1.length ≤ 9223372036854775807, fun x => [(AV.list 2 (List.map (fun x => [AV.int .i64 x.1, AV.int .i64 x.2]) (x.1))), (AV.list 2 (List.map (fun x => [AV.int .i64 x.1, AV.int .i64 x.2]) (x.2)))], fun x => .bool (decide (x.1 = x.2))⟩
theorem e1015 (a : List (Int × Int)) (b : List (Int × Int)) (hd : a.length ≤ 9223372036854775807) (q0 : Id) (H0 : Heap) : k1015.ora q0 ([(AV.list 2 (List.map (fun x => [AV.int .i64 x.1, AV.int .i64 x.2]) (a))), (AV.list 2 (List.map (fun x => [AV.int .i64 x.1, AV.int .i64 x.2]) (b)))]) H0 = some (.bool (decide (a = b)), H0) := k1015.eq (set2Inj) (a, b) hd q0 H0
theorem ook1015 : OraOK Tryz.prog (17 % 100000) k1015.ora := k1015.ok orders r12_ok (fun x hd => by simp [k1015, PU]) (fun x hd => by simp [k1015, PU]) (fun x hd => run1015 x.1 x.2 hd)

/-! 1023: caesurakeep.Ints. -/
theorem ext_getI {a b : List Int} (hl : a.length = b.length) (h : ∀ i, i < a.length → a.getD i 0 = b.getD i 0) : a = b := ext_getD 0 hl h
theorem run1023 (a b : List Int) (ha : a.length ≤ 9223372036854775807) : cwp r12 41 [] [(AV.list 1 (List.map (fun x => [AV.int .i64 x]) (a))), (AV.list 1 (List.map (fun x => [AV.int .i64 x]) (b)))] [] (fun r H => r = .bool (decide (a = b)) ∧ H = []) := by
  refine run_fn (fn := fn1023) rfl rfl ?_
  by_cases hl : a.length = b.length
  · have hl' : ((a.length : Int) != (b.length : Int)) = false := by simp [hl]
    simp only [fn1023_body, c1023, D0, ains, appG, clsOf, abin, aint, aun, dnext, rowsOf, loadObj, cellsOf, ofCells, bnd, hmerge, Nat.reduceBEq, Nat.reduceAdd, reduceIte, Nat.reduceEqDiff, Nat.reduceLeDiff, Int.reduceEq, reduceCtorEq, Int.reduceBEq, Int.reduceBNe, Int.reduceLT, Int.reduceNeg, hl']
    refine lg_rule (fun j e H => e = [(0, (AV.list 1 (List.map (fun x => [AV.int .i64 x]) (a)))), (1, (AV.list 1 (List.map (fun x => [AV.int .i64 x]) (b)))), (4, .bool false), (5, .int .i64 j)] ∧ H = [[]] ∧ j ≤ a.length ∧ ∀ i, i < j → a.getD i 0 = b.getD i 0) a.length ?_ ?_
    · exact ⟨rfl, rfl, by simp, by simp⟩
    rintro j e H ⟨rfl, rfl, hj, hi⟩
    simp only [D0, ains, appG, clsOf, abin, aint, aun, dnext, rowsOf, loadObj, cellsOf, ofCells, bnd, hmerge, Nat.reduceBEq, Nat.reduceAdd, reduceIte, Nat.reduceEqDiff, Nat.reduceLeDiff, Int.reduceEq, reduceCtorEq, Int.reduceBEq, Int.reduceBNe, Int.reduceLT, Int.reduceNeg]
    by_cases h : j < a.length
    · have h' : (j : Int) < (a.length : Int) := by omega
      have hp := wrapp (j := j) (by omega)
      have hga := map_get (f := fun x : Int => [AV.int .i64 x]) h 0
      have hgb := map_get (f := fun x : Int => [AV.int .i64 x]) (l := b) (j := j) (by omega) 0
      have ne : a.getD j 0 ≠ b.getD j 0 → decide (a = b) = false := fun h1 => by
        rw [decide_eq_false_iff_not]
        intro e
        exact h1 (by rw [e])
      have step : a.getD j 0 = b.getD j 0 → ∀ i, i < j + 1 → a.getD i 0 = b.getD i 0 := fun h1 i h2 => by
        by_cases e : i = j
        · rw [e]; exact h1
        · exact hi i (by omega)
      generalize a.getD j 0 = x at hga ne step
      generalize b.getD j 0 = y at hgb ne step
      by_cases h1 : x = y
      · have st := step h1
        have h1' : (x != y) = false := by simp [h1]
        clear ne step hi
        simp only [D0, ains, appG, clsOf, abin, aint, aun, dnext, rowsOf, loadObj, cellsOf, ofCells, bnd, hmerge, Nat.reduceBEq, Nat.reduceAdd, reduceIte, Nat.reduceEqDiff, Nat.reduceLeDiff, Int.reduceEq, reduceCtorEq, Int.reduceBEq, Int.reduceBNe, Int.reduceLT, Int.reduceNeg, h', hga, hgb, h1', hp, decide_true, Int.natCast_nonneg, Int.toNat_natCast]
        simp only [F1, bodyRes, one, ains, appG, clsOf, abin, aint, aun, dnext, rowsOf, loadObj, cellsOf, ofCells, bnd, hmerge, Nat.reduceBEq, Nat.reduceAdd, reduceIte, Nat.reduceEqDiff, Nat.reduceLeDiff, Int.reduceEq, reduceCtorEq, Int.reduceBEq, Int.reduceBNe, Int.reduceLT, Int.reduceNeg]
        exact ⟨h, h, st⟩
      · have ne' := ne h1
        have h1' : (x != y) = true := by simp [h1]
        clear ne step hi
        simp only [D0, ains, appG, clsOf, abin, aint, aun, dnext, rowsOf, loadObj, cellsOf, ofCells, bnd, hmerge, Nat.reduceBEq, Nat.reduceAdd, reduceIte, Nat.reduceEqDiff, Nat.reduceLeDiff, Int.reduceEq, reduceCtorEq, Int.reduceBEq, Int.reduceBNe, Int.reduceLT, Int.reduceNeg, h', hga, hgb, h1', decide_true, Int.natCast_nonneg, Int.toNat_natCast]
        simp only [F1, bodyRes, one, ains, appG, clsOf, abin, aint, aun, dnext, rowsOf, loadObj, cellsOf, ofCells, bnd, hmerge, Nat.reduceBEq, Nat.reduceAdd, reduceIte, Nat.reduceEqDiff, Nat.reduceLeDiff, Int.reduceEq, reduceCtorEq, Int.reduceBEq, Int.reduceBNe, Int.reduceLT, Int.reduceNeg, fn1023_res, fn1023_keep, ne']
    · have h' : ¬ (j : Int) < (a.length : Int) := by omega
      have he : decide (a = b) = true := decide_eq_true (ext_getI hl fun i h1 => hi i (by omega))
      simp only [D0, ains, appG, clsOf, abin, aint, aun, dnext, rowsOf, loadObj, cellsOf, ofCells, bnd, hmerge, Nat.reduceBEq, Nat.reduceAdd, reduceIte, Nat.reduceEqDiff, Nat.reduceLeDiff, Int.reduceEq, reduceCtorEq, Int.reduceBEq, Int.reduceBNe, Int.reduceLT, Int.reduceNeg, h', decide_false]
      refine .inr ⟨by simp, ?_⟩
      simp only [F1, bodyRes, one, ains, appG, clsOf, abin, aint, aun, dnext, rowsOf, loadObj, cellsOf, ofCells, bnd, hmerge, Nat.reduceBEq, Nat.reduceAdd, reduceIte, Nat.reduceEqDiff, Nat.reduceLeDiff, Int.reduceEq, reduceCtorEq, Int.reduceBEq, Int.reduceBNe, Int.reduceLT, Int.reduceNeg, fn1023_res, fn1023_keep, he]
  · have hl' : ((a.length : Int) != (b.length : Int)) = true := by
      simp only [bne_iff_ne, ne_eq]
      omega
    have he : decide (a = b) = false := by
      rw [decide_eq_false_iff_not]
      intro e
      exact hl (by rw [e])
    simp only [fn1023_body, c1023, D0, ains, appG, clsOf, abin, aint, aun, dnext, rowsOf, loadObj, cellsOf, ofCells, bnd, hmerge, Nat.reduceBEq, Nat.reduceAdd, reduceIte, Nat.reduceEqDiff, Nat.reduceLeDiff, Int.reduceEq, reduceCtorEq, Int.reduceBEq, Int.reduceBNe, Int.reduceLT, Int.reduceNeg, hl']
    simp only [F1, bodyRes, one, ains, appG, clsOf, abin, aint, aun, dnext, rowsOf, loadObj, cellsOf, ofCells, bnd, hmerge, Nat.reduceBEq, Nat.reduceAdd, reduceIte, Nat.reduceEqDiff, Nat.reduceLeDiff, Int.reduceEq, reduceCtorEq, Int.reduceBEq, Int.reduceBNe, Int.reduceLT, Int.reduceNeg, fn1023_res, fn1023_keep, he]
theorem row2Inj : ∀ x y : List Int × List Int, [(AV.list 1 (List.map (fun x => [AV.int .i64 x]) (x.1))), (AV.list 1 (List.map (fun x => [AV.int .i64 x]) (x.2)))] = [(AV.list 1 (List.map (fun x => [AV.int .i64 x]) (y.1))), (AV.list 1 (List.map (fun x => [AV.int .i64 x]) (y.2)))] → x = y := by
  rintro ⟨a, m⟩ ⟨b, n⟩ h
  simp only [List.cons.injEq, and_true] at h
  rw [eRow_inj (a := a) (b := b) h.1, eRow_inj (a := m) (b := n) h.2]
noncomputable def k1023 : Kon (List Int × List Int) := ⟨fun x => x.1.length ≤ 9223372036854775807, fun x => [(AV.list 1 (List.map (fun x => [AV.int .i64 x]) (x.1))), (AV.list 1 (List.map (fun x => [AV.int .i64 x]) (x.2)))], fun x => .bool (decide (x.1 = x.2))⟩
theorem e1023 (a : List Int) (b : List Int) (hd : a.length ≤ 9223372036854775807) (q0 : Id) (H0 : Heap) : k1023.ora q0 ([(AV.list 1 (List.map (fun x => [AV.int .i64 x]) (a))), (AV.list 1 (List.map (fun x => [AV.int .i64 x]) (b)))]) H0 = some (.bool (decide (a = b)), H0) := k1023.eq (row2Inj) (a, b) hd q0 H0
theorem ook1023 : OraOK Tryz.prog (41 % 100000) k1023.ora := k1023.ok orders r12_ok (fun x hd => by simp [k1023, PU]) (fun x hd => by simp [k1023, PU]) (fun x hd => run1023 x.1 x.2 hd)

/-! 1011: caesuraref04.Of. -/
def ofF (b : List R2) (v : Int) : Nat → Int → Int
  | 0, o => o
  | n + 1, o => if (b.getD n (0, 0)).1 ≤ v then (n : Int) else ofF b v n o
theorem ofF_ofI (b : List R2) (v : Int) : ∀ n, ofF b v n (-1) = ofI b v n
  | 0 => rfl
  | n + 1 => by unfold ofF ofI; rw [ofF_ofI b v n]
theorem run1011 (b : List R2) (v : Int) (hb : b.length ≤ 1000000) : cwp r12 13 [] [(AV.list 2 (List.map (fun x => [AV.int .i64 x.1, AV.int .i64 x.2]) (b))), .int .i64 v] [] (fun r H => r = .int .i64 (ofR b v) ∧ H = []) := by
  refine run_fn (fn := fn1011) rfl rfl ?_
  cases hv : isS v with
  | false =>
    have e : ofR b v = -1 := by simp [ofR, hv]
    rw [e]
    simp only [fn1011_body, c1011, D0, ains, appG, clsOf, abin, aint, aun, dnext, rowsOf, loadObj, cellsOf, ofCells, bnd, hmerge, Nat.reduceBEq, Nat.reduceAdd, reduceIte, Nat.reduceEqDiff, Nat.reduceLeDiff, Int.reduceEq, reduceCtorEq, Int.reduceBEq, Int.reduceBNe, Int.reduceLT, Int.reduceNeg]
    refine lg_rule (fun j e H => j = 0 ∧ e = [(0, (AV.list 2 (List.map (fun x => [AV.int .i64 x.1, AV.int .i64 x.2]) (b)))), (1, .int .i64 v), (4, .int .i64 0), (5, .int .i64 (-1)), (6, .int .i64 0)] ∧ H = [[]]) 0 ?_ ?_
    · exact ⟨rfl, rfl, rfl⟩
    rintro j e H ⟨rfl, rfl, rfl⟩
    by_cases hi0 : (0 : Int) < (b.length : Int)
    · simp only [D0, ains, appG, clsOf, abin, aint, aun, dnext, rowsOf, loadObj, cellsOf, ofCells, bnd, hmerge, Nat.reduceBEq, Nat.reduceAdd, reduceIte, Nat.reduceEqDiff, Nat.reduceLeDiff, Int.reduceEq, reduceCtorEq, Int.reduceBEq, Int.reduceBNe, Int.reduceLT, Int.reduceNeg, @use_all r12 37 k66.ora rfl, e66, hv, hi0, decide_true]
      refine .inr ⟨by simp, ?_⟩
      simp only [F1, bodyRes, one, ains, appG, clsOf, abin, aint, aun, dnext, rowsOf, loadObj, cellsOf, ofCells, bnd, hmerge, Nat.reduceBEq, Nat.reduceAdd, reduceIte, Nat.reduceEqDiff, Nat.reduceLeDiff, Int.reduceEq, reduceCtorEq, Int.reduceBEq, Int.reduceBNe, Int.reduceLT, Int.reduceNeg, fn1011_res, fn1011_keep]
    · simp only [D0, ains, appG, clsOf, abin, aint, aun, dnext, rowsOf, loadObj, cellsOf, ofCells, bnd, hmerge, Nat.reduceBEq, Nat.reduceAdd, reduceIte, Nat.reduceEqDiff, Nat.reduceLeDiff, Int.reduceEq, reduceCtorEq, Int.reduceBEq, Int.reduceBNe, Int.reduceLT, Int.reduceNeg, hi0, decide_false]
      refine .inr ⟨by simp, ?_⟩
      simp only [F1, bodyRes, one, ains, appG, clsOf, abin, aint, aun, dnext, rowsOf, loadObj, cellsOf, ofCells, bnd, hmerge, Nat.reduceBEq, Nat.reduceAdd, reduceIte, Nat.reduceEqDiff, Nat.reduceLeDiff, Int.reduceEq, reduceCtorEq, Int.reduceBEq, Int.reduceBNe, Int.reduceLT, Int.reduceNeg, fn1011_res, fn1011_keep]
  | true =>
    have e : ofR b v = ofI b v b.length := by simp [ofR, hv]
    rw [e]
    simp only [fn1011_body, c1011, D0, ains, appG, clsOf, abin, aint, aun, dnext, rowsOf, loadObj, cellsOf, ofCells, bnd, hmerge, Nat.reduceBEq, Nat.reduceAdd, reduceIte, Nat.reduceEqDiff, Nat.reduceLeDiff, Int.reduceEq, reduceCtorEq, Int.reduceBEq, Int.reduceBNe, Int.reduceLT, Int.reduceNeg]
    refine lg_rule (fun j e H => e = [(0, (AV.list 2 (List.map (fun x => [AV.int .i64 x.1, AV.int .i64 x.2]) (b)))), (1, .int .i64 v), (4, .int .i64 0), (5, .int .i64 (ofI b v j)), (6, .int .i64 j)] ∧ H = [[]] ∧ j ≤ b.length) b.length ?_ ?_
    · exact ⟨rfl, rfl, by simp⟩
    rintro j e H ⟨rfl, rfl, hj⟩
    by_cases h : j < b.length
    · have h' : (j : Int) < (b.length : Int) := by omega
      have hp := wrapp (j := j) (by omega)
      have hg := map_get (f := fun x : Int × Int => [AV.int .i64 x.1, AV.int .i64 x.2]) h (0, 0)
      have hn : ofI b v (j + 1) = if (b.getD j (0, 0)).1 ≤ v then (j : Int) else ofI b v j := rfl
      generalize b.getD j (0, 0) = x at hg hn
      obtain ⟨x1, x2⟩ := x
      by_cases k : x1 ≤ v
      · rw [if_pos k] at hn
        simp only [D0, ains, appG, clsOf, abin, aint, aun, dnext, rowsOf, loadObj, cellsOf, ofCells, bnd, hmerge, Nat.reduceBEq, Nat.reduceAdd, reduceIte, Nat.reduceEqDiff, Nat.reduceLeDiff, Int.reduceEq, reduceCtorEq, Int.reduceBEq, Int.reduceBNe, Int.reduceLT, Int.reduceNeg, @use_all r12 37 k66.ora rfl, e66, hv, h', hg, hp, k, decide_true, Int.natCast_nonneg, Int.toNat_natCast, List.length_map]
        simp only [F1, bodyRes, one, ains, appG, clsOf, abin, aint, aun, dnext, rowsOf, loadObj, cellsOf, ofCells, bnd, hmerge, Nat.reduceBEq, Nat.reduceAdd, reduceIte, Nat.reduceEqDiff, Nat.reduceLeDiff, Int.reduceEq, reduceCtorEq, Int.reduceBEq, Int.reduceBNe, Int.reduceLT, Int.reduceNeg]
        exact ⟨h, by rw [hn], h⟩
      · rw [if_neg k] at hn
        simp only [D0, ains, appG, clsOf, abin, aint, aun, dnext, rowsOf, loadObj, cellsOf, ofCells, bnd, hmerge, Nat.reduceBEq, Nat.reduceAdd, reduceIte, Nat.reduceEqDiff, Nat.reduceLeDiff, Int.reduceEq, reduceCtorEq, Int.reduceBEq, Int.reduceBNe, Int.reduceLT, Int.reduceNeg, @use_all r12 37 k66.ora rfl, e66, hv, h', hg, hp, k, decide_true, decide_false, Int.natCast_nonneg, Int.toNat_natCast, List.length_map]
        simp only [F1, bodyRes, one, ains, appG, clsOf, abin, aint, aun, dnext, rowsOf, loadObj, cellsOf, ofCells, bnd, hmerge, Nat.reduceBEq, Nat.reduceAdd, reduceIte, Nat.reduceEqDiff, Nat.reduceLeDiff, Int.reduceEq, reduceCtorEq, Int.reduceBEq, Int.reduceBNe, Int.reduceLT, Int.reduceNeg]
        exact ⟨h, by rw [hn], h⟩
    · have h' : ¬ (j : Int) < (b.length : Int) := by omega
      have hjl : j = b.length := by omega
      subst hjl
      simp only [D0, ains, appG, clsOf, abin, aint, aun, dnext, rowsOf, loadObj, cellsOf, ofCells, bnd, hmerge, Nat.reduceBEq, Nat.reduceAdd, reduceIte, Nat.reduceEqDiff, Nat.reduceLeDiff, Int.reduceEq, reduceCtorEq, Int.reduceBEq, Int.reduceBNe, Int.reduceLT, Int.reduceNeg, h', decide_false]
      refine .inr ⟨by simp, ?_⟩
      simp only [F1, bodyRes, one, ains, appG, clsOf, abin, aint, aun, dnext, rowsOf, loadObj, cellsOf, ofCells, bnd, hmerge, Nat.reduceBEq, Nat.reduceAdd, reduceIte, Nat.reduceEqDiff, Nat.reduceLeDiff, Int.reduceEq, reduceCtorEq, Int.reduceBEq, Int.reduceBNe, Int.reduceLT, Int.reduceNeg, fn1011_res, fn1011_keep]
noncomputable def k1011 : Kon ((List (Int × Int)) × Int) := ⟨fun x => x.1.length ≤ 1000000, fun x => [(AV.list 2 (List.map (fun x => [AV.int .i64 x.1, AV.int .i64 x.2]) (x.1))), .int .i64 x.2], fun x => .int .i64 (ofR x.1 x.2)⟩
theorem e1011 (b : List (Int × Int)) (v : Int) (hd : b.length ≤ 1000000) (q0 : Id) (H0 : Heap) : k1011.ora q0 ([(AV.list 2 (List.map (fun x => [AV.int .i64 x.1, AV.int .i64 x.2]) (b))), .int .i64 v]) H0 = some (.int .i64 (ofR b v), H0) := k1011.eq (setIntInj) (b, v) hd q0 H0
theorem ook1011 : OraOK Tryz.prog (13 % 100000) k1011.ora := k1011.ok orders r12_ok (fun x hd => by simp [k1011, PU]) (fun x hd => by simp [k1011, PU]) (fun x hd => run1011 x.1 x.2 hd)

/-! 1005: caesurakeep.OwnSets. -/
theorem run1005 (l : List (List R2)) (h0 : l.length ≤ 1000) (hs : ∀ s ∈ l, s.length ≤ 1000000) : cwp r12 7 [] [(AV.list 1 (List.map (fun s => [(AV.list 2 (List.map (fun x => [AV.int .i64 x.1, AV.int .i64 x.2]) (s)))]) (l)))] [] (fun r H => r = (AV.list 1 (List.map (fun s => [(AV.list 2 (List.map (fun x => [AV.int .i64 x.1, AV.int .i64 x.2]) (s)))]) (l))) ∧ H = []) := by
  refine run_fn (fn := fn1005) rfl rfl ?_
  simp only [fn1005_body, c1005, D0, ains, appG, clsOf, abin, aint, aun, dnext, rowsOf, loadObj, cellsOf, ofCells, bnd, hmerge, Nat.reduceBEq, Nat.reduceAdd, reduceIte, Nat.reduceEqDiff, Nat.reduceLeDiff, Int.reduceEq, reduceCtorEq, Int.reduceBEq, Int.reduceBNe, Int.reduceLT, Int.reduceNeg]
  refine lg_rule (fun j e H => e = [(0, (AV.list 1 (List.map (fun s => [(AV.list 2 (List.map (fun x => [AV.int .i64 x.1, AV.int .i64 x.2]) (s)))]) (l)))), (2, .own [0] 0), (3, .own [1] j), (4, .int .i64 j)] ∧ H = [[([1], .row true true 46 1 (List.map (fun s => [(AV.list 2 (List.map (fun x => [AV.int .i64 x.1, AV.int .i64 x.2]) (s)))]) (l.take j))), ([0], .row true true 46 1 [])]] ∧ j ≤ l.length) l.length ?_ ?_
  · exact ⟨rfl, rfl, by simp⟩
  rintro j e H ⟨rfl, rfl, hj⟩
  simp only [D0, ains, appG, clsOf, abin, aint, aun, dnext, rowsOf, loadObj, cellsOf, ofCells, bnd, hmerge, Nat.reduceBEq, Nat.reduceAdd, reduceIte, Nat.reduceEqDiff, Nat.reduceLeDiff, Int.reduceEq, reduceCtorEq, Int.reduceBEq, Int.reduceBNe, Int.reduceLT, Int.reduceNeg]
  by_cases h : j < l.length
  · have h' : (j : Int) < (l.length : Int) := by omega
    have hp := wrapp (j := j) (by omega)
    have hg := map_get (f := fun s : List R2 => [(AV.list 2 (List.map (fun x => [AV.int .i64 x.1, AV.int .i64 x.2]) (s)))]) h []
    have hsl := hs _ (getD_memL h)
    have htk := takeL_snoc h
    have hlt : (l.take j).length = j := by simp; omega
    generalize l.getD j [] = s at hg hsl htk
    have hc1 : s.length * 16 ≤ 140737488355328 := by omega
    have hc2 : (j + 1) * 24 ≤ 140737488355328 := by omega
    simp only [D0, ains, appG, clsOf, abin, aint, aun, dnext, rowsOf, loadObj, cellsOf, ofCells, bnd, hmerge, Nat.reduceBEq, Nat.reduceAdd, reduceIte, Nat.reduceEqDiff, Nat.reduceLeDiff, Int.reduceEq, reduceCtorEq, Int.reduceBEq, Int.reduceBNe, Int.reduceLT, Int.reduceNeg, fz, fzd, fzd.fzcells, setRows, h', hg, hp, hc1, hc2, hlt, Nat.zero_add, decide_true, Int.natCast_nonneg, Int.toNat_natCast, List.length_map]
    simp only [F1, bodyRes, one, ains, appG, clsOf, abin, aint, aun, dnext, rowsOf, loadObj, cellsOf, ofCells, bnd, hmerge, Nat.reduceBEq, Nat.reduceAdd, reduceIte, Nat.reduceEqDiff, Nat.reduceLeDiff, Int.reduceEq, reduceCtorEq, Int.reduceBEq, Int.reduceBNe, Int.reduceLT, Int.reduceNeg]
    rw [htk]
    exact ⟨h, by simp, h⟩
  · have h' : ¬ (j : Int) < (l.length : Int) := by omega
    have hjl : j = l.length := by omega
    subst hjl
    simp only [D0, ains, appG, clsOf, abin, aint, aun, dnext, rowsOf, loadObj, cellsOf, ofCells, bnd, hmerge, Nat.reduceBEq, Nat.reduceAdd, reduceIte, Nat.reduceEqDiff, Nat.reduceLeDiff, Int.reduceEq, reduceCtorEq, Int.reduceBEq, Int.reduceBNe, Int.reduceLT, Int.reduceNeg, h', decide_false]
    refine .inr ⟨by simp, ?_⟩
    simp only [F1, bodyRes, one, ains, appG, clsOf, abin, aint, aun, dnext, rowsOf, loadObj, cellsOf, ofCells, bnd, hmerge, Nat.reduceBEq, Nat.reduceAdd, reduceIte, Nat.reduceEqDiff, Nat.reduceLeDiff, Int.reduceEq, reduceCtorEq, Int.reduceBEq, Int.reduceBNe, Int.reduceLT, Int.reduceNeg, fn1005_res, fn1005_keep, fz, fzd, fzd.fzcells, List.take_length, List.length_map]
noncomputable def k1005 : Kon ((List (List (Int × Int)))) := ⟨fun x => x.length ≤ 1000 ∧ ∀ s ∈ x, s.length ≤ 1000000, fun x => [(AV.list 1 (List.map (fun s => [(AV.list 2 (List.map (fun x => [AV.int .i64 x.1, AV.int .i64 x.2]) (s)))]) (x)))], fun x => (AV.list 1 (List.map (fun s => [(AV.list 2 (List.map (fun x => [AV.int .i64 x.1, AV.int .i64 x.2]) (s)))]) (x)))⟩
theorem e1005 (l : List (List (Int × Int))) (hd : l.length ≤ 1000 ∧ ∀ s ∈ l, s.length ≤ 1000000) (q0 : Id) (H0 : Heap) : k1005.ora q0 ([(AV.list 1 (List.map (fun s => [(AV.list 2 (List.map (fun x => [AV.int .i64 x.1, AV.int .i64 x.2]) (s)))]) (l)))]) H0 = some ((AV.list 1 (List.map (fun s => [(AV.list 2 (List.map (fun x => [AV.int .i64 x.1, AV.int .i64 x.2]) (s)))]) (l))), H0) := k1005.eq (setsInj) (l) hd q0 H0
theorem ook1005 : OraOK Tryz.prog (7 % 100000) k1005.ora := k1005.ok orders r12_ok (fun x hd => by simp [k1005, PU]) (fun x hd => by simp [k1005, PU]) (fun x hd => run1005 x hd.1 hd.2)

end Go.Proofs.Abs

set_option linter.all false
set_option linter.constructorNameAsVariable false
set_option linter.defProp false
set_option linter.unusedVariables false
set_option linter.unusedSimpArgs false
set_option maxRecDepth 100000
set_option maxHeartbeats 16000000
namespace Go.Proofs.Abs
open Go
noncomputable def r14 : FT := upd (upd (upd (upd (upd (r12) 20 k54.ora) 41 k1023.ora) 17 k1015.ora) 7 k1005.ora) 13 k1011.ora
theorem r14_ok : FTOK Tryz.prog r14 := upd_ok2 (f := 13) (upd_ok2 (f := 7) (upd_ok2 (f := 17) (upd_ok2 (f := 41) (upd_ok2 (f := 20) (r12_ok) ook54) ook1023) ook1015) ook1005) ook1011

/-! 1016: caesurakeep.Lists. -/
theorem getD_memI {l : List (List Int)} {j : Nat} (h : j < l.length) : l.getD j [] ∈ l := by
  rw [List.getD_eq_getElem?_getD, List.getElem?_eq_getElem h]
  exact List.getElem_mem h
theorem drop_getI {a : List (List Int)} {j : Nat} (h : j < a.length) : a.drop j = a.getD j [] :: a.drop (j + 1) := by
  rw [List.drop_eq_getElem_cons h]
  simp [List.getElem?_eq_getElem h]
theorem run1016 (a b : List (List Int)) (h0 : a.length ≤ 1000000) (ha : ∀ s ∈ a, s.length ≤ 9223372036854775807) : cwp r14 18 [] [.list 1 (List.map (fun y => [(AV.list 1 (List.map (fun x => [AV.int .i64 x]) (y)))]) a), .list 1 (List.map (fun y => [(AV.list 1 (List.map (fun x => [AV.int .i64 x]) (y)))]) b)] [] (fun r H => r = .bool (decide (a = b)) ∧ H = []) := by
  refine run_fn (fn := fn1016) rfl rfl ?_
  by_cases hl : a.length = b.length
  · have hl' : ((a.length : Int) != (b.length : Int)) = false := by simp [hl]
    simp only [fn1016_body, c1016, D0, ains, appG, clsOf, abin, aint, aun, dnext, rowsOf, loadObj, cellsOf, ofCells, bnd, hmerge, Nat.reduceBEq, Nat.reduceAdd, reduceIte, Nat.reduceEqDiff, Nat.reduceLeDiff, Int.reduceEq, reduceCtorEq, Int.reduceBEq, Int.reduceBNe, Int.reduceLT, Int.reduceNeg, hl']
    refine lg_rule (fun j e H => e = [(0, .list 1 (List.map (fun y => [(AV.list 1 (List.map (fun x => [AV.int .i64 x]) (y)))]) a)), (1, .list 1 (List.map (fun y => [(AV.list 1 (List.map (fun x => [AV.int .i64 x]) (y)))]) b)), (4, .bool false), (5, .int .i64 j)] ∧ H = [[]] ∧ j ≤ a.length ∧ ((a = b) ↔ (a.drop j = b.drop j))) a.length ?_ ?_
    · exact ⟨rfl, rfl, by simp, by simp⟩
    rintro j e H ⟨rfl, rfl, hj, hd⟩
    simp only [D0, ains, appG, clsOf, abin, aint, aun, dnext, rowsOf, loadObj, cellsOf, ofCells, bnd, hmerge, Nat.reduceBEq, Nat.reduceAdd, reduceIte, Nat.reduceEqDiff, Nat.reduceLeDiff, Int.reduceEq, reduceCtorEq, Int.reduceBEq, Int.reduceBNe, Int.reduceLT, Int.reduceNeg]
    by_cases h : j < a.length
    · have h' : (j : Int) < (a.length : Int) := by omega
      have hp := wrapp (j := j) (by omega)
      have hga := map_get (f := fun s : List Int => [(AV.list 1 (List.map (fun x => [AV.int .i64 x]) (s)))]) h []
      have hgb := map_get (f := fun s : List Int => [(AV.list 1 (List.map (fun x => [AV.int .i64 x]) (s)))]) (l := b) (j := j) (by omega) []
      have hla := ha _ (getD_memI h)
      rw [drop_getI h, drop_getI (a := b) (j := j) (by omega)] at hd
      generalize a.getD j [] = x at hga hla hd
      generalize b.getD j [] = y at hgb hd
      by_cases e : x = y
      · have e' : decide (x = y) = true := by simpa using e
        have hd2 : (a = b) ↔ (a.drop (j + 1) = b.drop (j + 1)) := by rw [hd, e]; simp
        simp only [D0, ains, appG, clsOf, abin, aint, aun, dnext, rowsOf, loadObj, cellsOf, ofCells, bnd, hmerge, Nat.reduceBEq, Nat.reduceAdd, reduceIte, Nat.reduceEqDiff, Nat.reduceLeDiff, Int.reduceEq, reduceCtorEq, Int.reduceBEq, Int.reduceBNe, Int.reduceLT, Int.reduceNeg, @use_all r14 41 k1023.ora rfl, e1023, h', hp, hga, hgb, hla, e', lrc_x, apx, apart, apart1, needs, decide_true, Int.natCast_nonneg, Int.toNat_natCast]
        simp only [F1, bodyRes, one, ains, appG, clsOf, abin, aint, aun, dnext, rowsOf, loadObj, cellsOf, ofCells, bnd, hmerge, Nat.reduceBEq, Nat.reduceAdd, reduceIte, Nat.reduceEqDiff, Nat.reduceLeDiff, Int.reduceEq, reduceCtorEq, Int.reduceBEq, Int.reduceBNe, Int.reduceLT, Int.reduceNeg]
        exact ⟨h, h, hd2⟩
      · have e' : decide (x = y) = false := by simpa using e
        have hn : decide (a = b) = false := by simp only [decide_eq_false_iff_not]; intro q; rw [hd] at q; simp only [List.cons.injEq] at q; exact e q.1
        simp only [D0, ains, appG, clsOf, abin, aint, aun, dnext, rowsOf, loadObj, cellsOf, ofCells, bnd, hmerge, Nat.reduceBEq, Nat.reduceAdd, reduceIte, Nat.reduceEqDiff, Nat.reduceLeDiff, Int.reduceEq, reduceCtorEq, Int.reduceBEq, Int.reduceBNe, Int.reduceLT, Int.reduceNeg, @use_all r14 41 k1023.ora rfl, e1023, h', hp, hga, hgb, hla, e', lrc_x, apx, apart, apart1, needs, decide_true, Int.natCast_nonneg, Int.toNat_natCast]
        simp only [F1, bodyRes, one, ains, appG, clsOf, abin, aint, aun, dnext, rowsOf, loadObj, cellsOf, ofCells, bnd, hmerge, Nat.reduceBEq, Nat.reduceAdd, reduceIte, Nat.reduceEqDiff, Nat.reduceLeDiff, Int.reduceEq, reduceCtorEq, Int.reduceBEq, Int.reduceBNe, Int.reduceLT, Int.reduceNeg, fn1016_res, fn1016_keep, hn]
    · have h' : ¬ (j : Int) < (a.length : Int) := by omega
      have hy : decide (a = b) = true := by
        simp only [decide_eq_true_eq]
        rw [hd, List.drop_eq_nil_of_le (by omega), List.drop_eq_nil_of_le (by omega)]
      simp only [D0, ains, appG, clsOf, abin, aint, aun, dnext, rowsOf, loadObj, cellsOf, ofCells, bnd, hmerge, Nat.reduceBEq, Nat.reduceAdd, reduceIte, Nat.reduceEqDiff, Nat.reduceLeDiff, Int.reduceEq, reduceCtorEq, Int.reduceBEq, Int.reduceBNe, Int.reduceLT, Int.reduceNeg, h', decide_false]
      refine .inr ⟨by simp, ?_⟩
      simp only [F1, bodyRes, one, ains, appG, clsOf, abin, aint, aun, dnext, rowsOf, loadObj, cellsOf, ofCells, bnd, hmerge, Nat.reduceBEq, Nat.reduceAdd, reduceIte, Nat.reduceEqDiff, Nat.reduceLeDiff, Int.reduceEq, reduceCtorEq, Int.reduceBEq, Int.reduceBNe, Int.reduceLT, Int.reduceNeg, fn1016_res, fn1016_keep, hy]
  · have hl' : ((a.length : Int) != (b.length : Int)) = true := by simp only [bne_iff_ne]; omega
    have hn : decide (a = b) = false := by simp only [decide_eq_false_iff_not]; intro q; exact hl (by rw [q])
    simp only [fn1016_body, c1016, D0, ains, appG, clsOf, abin, aint, aun, dnext, rowsOf, loadObj, cellsOf, ofCells, bnd, hmerge, Nat.reduceBEq, Nat.reduceAdd, reduceIte, Nat.reduceEqDiff, Nat.reduceLeDiff, Int.reduceEq, reduceCtorEq, Int.reduceBEq, Int.reduceBNe, Int.reduceLT, Int.reduceNeg, hl']
    simp only [F1, bodyRes, one, ains, appG, clsOf, abin, aint, aun, dnext, rowsOf, loadObj, cellsOf, ofCells, bnd, hmerge, Nat.reduceBEq, Nat.reduceAdd, reduceIte, Nat.reduceEqDiff, Nat.reduceLeDiff, Int.reduceEq, reduceCtorEq, Int.reduceBEq, Int.reduceBNe, Int.reduceLT, Int.reduceNeg, fn1016_res, fn1016_keep, hn]
theorem lists2Inj : ∀ x y : List (List Int) × List (List Int), [AV.list 1 (List.map (fun y => [(AV.list 1 (List.map (fun x => [AV.int .i64 x]) (y)))]) x.1), AV.list 1 (List.map (fun y => [(AV.list 1 (List.map (fun x => [AV.int .i64 x]) (y)))]) x.2)] = [AV.list 1 (List.map (fun y => [(AV.list 1 (List.map (fun x => [AV.int .i64 x]) (y)))]) y.1), AV.list 1 (List.map (fun y => [(AV.list 1 (List.map (fun x => [AV.int .i64 x]) (y)))]) y.2)] → x = y := by
  rintro ⟨a, m⟩ ⟨b, n⟩ h
  simp only [List.cons.injEq, and_true, AV.list.injEq, true_and] at h
  have inj : ∀ x y : List Int, [(AV.list 1 (List.map (fun x => [AV.int .i64 x]) (x)))] = [(AV.list 1 (List.map (fun x => [AV.int .i64 x]) (y)))] → x = y := rowInj
  rw [mapInj inj h.1, mapInj inj h.2]
noncomputable def k1016 : Kon (List (List Int) × List (List Int)) := ⟨fun x => x.1.length ≤ 1000000 ∧ ∀ s ∈ x.1, s.length ≤ 9223372036854775807, fun x => [.list 1 (List.map (fun y => [(AV.list 1 (List.map (fun x => [AV.int .i64 x]) (y)))]) x.1), .list 1 (List.map (fun y => [(AV.list 1 (List.map (fun x => [AV.int .i64 x]) (y)))]) x.2)], fun x => .bool (decide (x.1 = x.2))⟩
theorem e1016 (a : List (List Int)) (b : List (List Int)) (hd : a.length ≤ 1000000 ∧ ∀ s ∈ a, s.length ≤ 9223372036854775807) (q0 : Id) (H0 : Heap) : k1016.ora q0 ([.list 1 (List.map (fun y => [(AV.list 1 (List.map (fun x => [AV.int .i64 x]) (y)))]) a), .list 1 (List.map (fun y => [(AV.list 1 (List.map (fun x => [AV.int .i64 x]) (y)))]) b)]) H0 = some (.bool (decide (a = b)), H0) := k1016.eq (lists2Inj) (a, b) hd q0 H0
theorem ook1016 : OraOK Tryz.prog (18 % 100000) k1016.ora := k1016.ok orders r14_ok (fun x hd => by simp [k1016, PU]) (fun x hd => by simp [k1016, PU]) (fun x hd => run1016 x.1 x.2 hd.1 hd.2)

/-! 1009: caesuraref04.Bands. -/
theorem bandsR_bad {P : List (List R2)} {s : List R2} (hs : s ∈ P) (h : goodS s = false ∨ s = []) : bandsR P = none := by
  unfold bandsR
  rw [if_neg]
  intro k
  simp only [Bool.and_eq_true, List.all_eq_true] at k
  rcases h with h | h
  · have := k.1 s hs; rw [h] at this; cases this
  · have := k.2 s hs; rw [h] at this; simp at this
theorem run1009 (P : List (List R2)) (h0 : P.length ≤ 1000) (hl : lenS P ≤ 1000) (hps : ∀ s ∈ P, s.length ≤ 1000000) :
    cwp r14 11 [] [(AV.list 1 (List.map (fun s => [(AV.list 2 (List.map (fun x => [AV.int .i64 x.1, AV.int .i64 x.2]) (s)))]) (P)))] [] (fun r H => r = .tuple [(AV.list 2 (List.map (fun x => [AV.int .i64 x.1, AV.int .i64 x.2]) ((bandsR P).getD []))), .bool (bandsR P).isSome] ∧ H = []) := by
  refine run_fn (fn := fn1009) rfl rfl ?_
  simp only [fn1009_body, c1009, D0, ains, appG, clsOf, abin, aint, aun, dnext, rowsOf, loadObj, cellsOf, ofCells, bnd, hmerge, Nat.reduceBEq, Nat.reduceAdd, reduceIte, Nat.reduceEqDiff, Nat.reduceLeDiff, Int.reduceEq, reduceCtorEq, Int.reduceBEq, Int.reduceBNe, Int.reduceLT, Int.reduceNeg]
  refine lg_rule (fun j e H => e = [(0, (AV.list 1 (List.map (fun s => [(AV.list 2 (List.map (fun x => [AV.int .i64 x.1, AV.int .i64 x.2]) (s)))]) (P)))), (2, .own [0] 0), (3, .bool false), (4, .int .i64 j)] ∧ H = [[([0], .row true true 40 2 [])]] ∧ j ≤ P.length ∧ ∀ i, i < j → goodS (P.getD i []) = true ∧ ¬ (P.getD i []).length = 0) P.length ?_ ?_
  · exact ⟨rfl, rfl, by simp, fun i hi => by omega⟩
  rintro j e H ⟨rfl, rfl, hj, hgd⟩
  simp only [D0, ains, appG, clsOf, abin, aint, aun, dnext, rowsOf, loadObj, cellsOf, ofCells, bnd, hmerge, Nat.reduceBEq, Nat.reduceAdd, reduceIte, Nat.reduceEqDiff, Nat.reduceLeDiff, Int.reduceEq, reduceCtorEq, Int.reduceBEq, Int.reduceBNe, Int.reduceLT, Int.reduceNeg]
  by_cases h : j < P.length
  · have h' : (j : Int) < (P.length : Int) := by omega
    have hp := wrapp (j := j) (by omega)
    have hg := map_get (f := fun s : List R2 => [(AV.list 2 (List.map (fun x => [AV.int .i64 x.1, AV.int .i64 x.2]) (s)))]) h []
    have hs9 : (P.getD j []).length ≤ 9223372036854775807 := by have := hps _ (getD_memL h); omega
    have hbad := bandsR_bad (getD_memL h)
    have hgj : goodS (P.getD j []) = true → ¬ (P.getD j []).length = 0 → ∀ i, i < j + 1 → goodS (P.getD i []) = true ∧ ¬ (P.getD i []).length = 0 := fun e1 e2 i hi => by
      by_cases k : i = j
      · rw [k]; exact ⟨e1, e2⟩
      · exact hgd i (by omega)
    generalize P.getD j [] = s at hg hs9 hgj hbad
    cases gs : goodS s with
    | true =>
      by_cases hs0 : s.length = 0
      · have hs0' : ((s.length : Int) == 0) = true := by simp [hs0]
        have hb := hbad (.inr (List.eq_nil_of_length_eq_zero hs0))
        simp only [D0, ains, appG, clsOf, abin, aint, aun, dnext, rowsOf, loadObj, cellsOf, ofCells, bnd, hmerge, Nat.reduceBEq, Nat.reduceAdd, reduceIte, Nat.reduceEqDiff, Nat.reduceLeDiff, Int.reduceEq, reduceCtorEq, Int.reduceBEq, Int.reduceBNe, Int.reduceLT, Int.reduceNeg, h', hg, hp, hs9, hs0', @use_all r14 19 k57.ora rfl, e57, gs, decide_true, Int.natCast_nonneg, Int.toNat_natCast, List.length_map]
        simp only [F1, bodyRes, one, ains, appG, clsOf, abin, aint, aun, dnext, rowsOf, loadObj, cellsOf, ofCells, bnd, hmerge, Nat.reduceBEq, Nat.reduceAdd, reduceIte, Nat.reduceEqDiff, Nat.reduceLeDiff, Int.reduceEq, reduceCtorEq, Int.reduceBEq, Int.reduceBNe, Int.reduceLT, Int.reduceNeg, fn1009_res, fn1009_keep, fz, fzd, fzd.fzcells, hb, Option.getD_none, Option.isSome_none, List.map_nil]
      · have hs0' : ((s.length : Int) == 0) = false := beq_eq_false_iff_ne.2 (by omega)
        simp only [D0, ains, appG, clsOf, abin, aint, aun, dnext, rowsOf, loadObj, cellsOf, ofCells, bnd, hmerge, Nat.reduceBEq, Nat.reduceAdd, reduceIte, Nat.reduceEqDiff, Nat.reduceLeDiff, Int.reduceEq, reduceCtorEq, Int.reduceBEq, Int.reduceBNe, Int.reduceLT, Int.reduceNeg, h', hg, hp, hs9, hs0', @use_all r14 19 k57.ora rfl, e57, gs, decide_true, Int.natCast_nonneg, Int.toNat_natCast, List.length_map]
        simp only [F1, bodyRes, one, ains, appG, clsOf, abin, aint, aun, dnext, rowsOf, loadObj, cellsOf, ofCells, bnd, hmerge, Nat.reduceBEq, Nat.reduceAdd, reduceIte, Nat.reduceEqDiff, Nat.reduceLeDiff, Int.reduceEq, reduceCtorEq, Int.reduceBEq, Int.reduceBNe, Int.reduceLT, Int.reduceNeg]
        exact ⟨h, h, hgj gs hs0⟩
    | false =>
      have hb := hbad (.inl gs)
      simp only [D0, ains, appG, clsOf, abin, aint, aun, dnext, rowsOf, loadObj, cellsOf, ofCells, bnd, hmerge, Nat.reduceBEq, Nat.reduceAdd, reduceIte, Nat.reduceEqDiff, Nat.reduceLeDiff, Int.reduceEq, reduceCtorEq, Int.reduceBEq, Int.reduceBNe, Int.reduceLT, Int.reduceNeg, h', hg, hp, hs9, @use_all r14 19 k57.ora rfl, e57, gs, decide_true, Int.natCast_nonneg, Int.toNat_natCast, List.length_map]
      simp only [F1, bodyRes, one, ains, appG, clsOf, abin, aint, aun, dnext, rowsOf, loadObj, cellsOf, ofCells, bnd, hmerge, Nat.reduceBEq, Nat.reduceAdd, reduceIte, Nat.reduceEqDiff, Nat.reduceLeDiff, Int.reduceEq, reduceCtorEq, Int.reduceBEq, Int.reduceBNe, Int.reduceLT, Int.reduceNeg, fn1009_res, fn1009_keep, fz, fzd, fzd.fzcells, hb, Option.getD_none, Option.isSome_none, List.map_nil]
  · have h' : ¬ (j : Int) < (P.length : Int) := by omega
    have hjl : j = P.length := by omega
    subst hjl
    have hbR : bandsR P = bR P (startsL P.flatten) [] := by
      unfold bandsR
      rw [if_pos]
      simp only [Bool.and_eq_true, List.all_eq_true]
      refine ⟨fun s hs => ?_, fun s hs => ?_⟩
      · obtain ⟨c, hc, rfl⟩ := mem_getP hs
        exact (hgd c hc).1
      · obtain ⟨c, hc, rfl⟩ := mem_getP hs
        have := (hgd c hc).2
        cases e : P.getD c [] with
        | nil => rw [e] at this; simp at this
        | cons _ _ => rfl
    have hzl := startsL_len P
    rw [hbR]
    clear hbR hgd hj h
    simp only [D0, ains, appG, clsOf, abin, aint, aun, dnext, rowsOf, loadObj, cellsOf, ofCells, bnd, hmerge, Nat.reduceBEq, Nat.reduceAdd, reduceIte, Nat.reduceEqDiff, Nat.reduceLeDiff, Int.reduceEq, reduceCtorEq, Int.reduceBEq, Int.reduceBNe, Int.reduceLT, Int.reduceNeg, h', decide_false]
    refine .inr ⟨by simp, ?_⟩
    simp only [D0, ains, appG, clsOf, abin, aint, aun, dnext, rowsOf, loadObj, cellsOf, ofCells, bnd, hmerge, Nat.reduceBEq, Nat.reduceAdd, reduceIte, Nat.reduceEqDiff, Nat.reduceLeDiff, Int.reduceEq, reduceCtorEq, Int.reduceBEq, Int.reduceBNe, Int.reduceLT, Int.reduceNeg, @use_all r14 29 kS.ora rfl, eS P ⟨h0, hl⟩]
    generalize startsL P.flatten = z at hzl ⊢
    refine lg_rule (fun i e H => ∃ out : List R2, e = [(0, (AV.list 1 (List.map (fun s => [(AV.list 2 (List.map (fun x => [AV.int .i64 x.1, AV.int .i64 x.2]) (s)))]) (P)))), (2, .own [0] 0), (3, .bool false), (4, .int .i64 P.length), (5, (AV.list 1 (List.map (fun x => [AV.int .i64 x]) (z)))), (6, .own [7] out.length), (7, .int .i64 i)] ∧
      H = [[([7], .row true true 40 2 (List.map (fun x => [AV.int .i64 x.1, AV.int .i64 x.2]) out)), ([0], .row true true 40 2 [])]] ∧ i ≤ z.length ∧ out.length ≤ i ∧ bR P z [] = bR P (z.drop i) out) z.length ?_ ?_
    · exact ⟨[], rfl, rfl, by simp, Nat.le_refl _, rfl⟩
    rintro i e H ⟨out, rfl, rfl, hi, hol, hbr⟩
    simp only [D0, ains, appG, clsOf, abin, aint, aun, dnext, rowsOf, loadObj, cellsOf, ofCells, bnd, hmerge, Nat.reduceBEq, Nat.reduceAdd, reduceIte, Nat.reduceEqDiff, Nat.reduceLeDiff, Int.reduceEq, reduceCtorEq, Int.reduceBEq, Int.reduceBNe, Int.reduceLT, Int.reduceNeg]
    by_cases h : i < z.length
    · have h' : (i : Int) < (z.length : Int) := by omega
      have hp := wrapp (j := i) (by omega)
      have hg := map_get (f := fun x : Int => [AV.int .i64 x]) h 0
      have hdr : z.drop i = z.getD i 0 :: z.drop (i + 1) := by rw [List.drop_eq_getElem_cons h]; simp [List.getElem?_eq_getElem h]
      rw [hdr] at hbr
      generalize z.getD i 0 = v at hg hbr
      simp only [D0, ains, appG, clsOf, abin, aint, aun, dnext, rowsOf, loadObj, cellsOf, ofCells, bnd, hmerge, Nat.reduceBEq, Nat.reduceAdd, reduceIte, Nat.reduceEqDiff, Nat.reduceLeDiff, Int.reduceEq, reduceCtorEq, Int.reduceBEq, Int.reduceBNe, Int.reduceLT, Int.reduceNeg, h', decide_true]
      refine lg_rule (fun k e H => e = [(0, (AV.list 1 (List.map (fun s => [(AV.list 2 (List.map (fun x => [AV.int .i64 x.1, AV.int .i64 x.2]) (s)))]) (P)))), (2, .own [0] 0), (3, .bool false), (4, .int .i64 P.length), (5, (AV.list 1 (List.map (fun x => [AV.int .i64 x]) (z)))), (6, .own [7] out.length), (7, .int .i64 i), (8, .int .i64 (clsH P v k)), (9, .int .i64 (cntH P v k)), (10, .int .i64 k)] ∧
        H = [[], [([7], .row true true 40 2 (List.map (fun x => [AV.int .i64 x.1, AV.int .i64 x.2]) out)), ([0], .row true true 40 2 [])]] ∧ k ≤ P.length) P.length ?_ ?_
      · exact ⟨rfl, rfl, by simp⟩
      rintro k e H ⟨rfl, rfl, hk⟩
      simp only [D0, ains, appG, clsOf, abin, aint, aun, dnext, rowsOf, loadObj, cellsOf, ofCells, bnd, hmerge, Nat.reduceBEq, Nat.reduceAdd, reduceIte, Nat.reduceEqDiff, Nat.reduceLeDiff, Int.reduceEq, reduceCtorEq, Int.reduceBEq, Int.reduceBNe, Int.reduceLT, Int.reduceNeg]
      by_cases hkP : k < P.length
      · have hkP' : (k : Int) < (P.length : Int) := by omega
        have hpk := wrapp (j := k) (by omega)
        have hgk := map_get (f := fun s : List R2 => [(AV.list 2 (List.map (fun x => [AV.int .i64 x.1, AV.int .i64 x.2]) (s)))]) hkP []
        have hsl := hps _ (getD_memP hkP)
        have hcn := cntH_next P v k
        have hcl := cntH_le P v k
        have hce : clsH P v (k + 1) = if hasS (P.getD k []) v = true then k else clsH P v k := rfl
        have hpc := wrapp (j := cntH P v k) (by omega)
        generalize P.getD k [] = s at hgk hsl hcn hce
        cases hh : hasS s v with
        | true =>
          rw [hh, if_pos rfl] at hcn hce
          simp only [D0, ains, appG, clsOf, abin, aint, aun, dnext, rowsOf, loadObj, cellsOf, ofCells, bnd, hmerge, Nat.reduceBEq, Nat.reduceAdd, reduceIte, Nat.reduceEqDiff, Nat.reduceLeDiff, Int.reduceEq, reduceCtorEq, Int.reduceBEq, Int.reduceBNe, Int.reduceLT, Int.reduceNeg, @use_all r14 30 k59.ora rfl, e59, hkP', h', hpk, hgk, hg, hsl, hh, hpc, lrc_x, apx, apart, apart1, needs, decide_true, Int.natCast_nonneg, Int.toNat_natCast, List.length_map]
          simp only [F1, bodyRes, one, ains, appG, clsOf, abin, aint, aun, dnext, rowsOf, loadObj, cellsOf, ofCells, bnd, hmerge, Nat.reduceBEq, Nat.reduceAdd, reduceIte, Nat.reduceEqDiff, Nat.reduceLeDiff, Int.reduceEq, reduceCtorEq, Int.reduceBEq, Int.reduceBNe, Int.reduceLT, Int.reduceNeg]
          exact ⟨hkP, ⟨by rw [hce], by rw [hcn]⟩, hkP⟩
        | false =>
          rw [hh] at hcn hce
          simp only [Bool.false_eq_true, if_false, Nat.add_zero] at hcn hce
          simp only [D0, ains, appG, clsOf, abin, aint, aun, dnext, rowsOf, loadObj, cellsOf, ofCells, bnd, hmerge, Nat.reduceBEq, Nat.reduceAdd, reduceIte, Nat.reduceEqDiff, Nat.reduceLeDiff, Int.reduceEq, reduceCtorEq, Int.reduceBEq, Int.reduceBNe, Int.reduceLT, Int.reduceNeg, @use_all r14 30 k59.ora rfl, e59, hkP', h', hpk, hgk, hg, hsl, hh, lrc_x, apx, apart, apart1, needs, decide_true, Int.natCast_nonneg, Int.toNat_natCast, List.length_map]
          simp only [F1, bodyRes, one, ains, appG, clsOf, abin, aint, aun, dnext, rowsOf, loadObj, cellsOf, ofCells, bnd, hmerge, Nat.reduceBEq, Nat.reduceAdd, reduceIte, Nat.reduceEqDiff, Nat.reduceLeDiff, Int.reduceEq, reduceCtorEq, Int.reduceBEq, Int.reduceBNe, Int.reduceLT, Int.reduceNeg]
          exact ⟨hkP, ⟨by rw [hce], by rw [hcn]⟩, hkP⟩
      · have hkP' : ¬ (k : Int) < (P.length : Int) := by omega
        have hke : k = P.length := by omega
        subst hke
        simp only [D0, ains, appG, clsOf, abin, aint, aun, dnext, rowsOf, loadObj, cellsOf, ofCells, bnd, hmerge, Nat.reduceBEq, Nat.reduceAdd, reduceIte, Nat.reduceEqDiff, Nat.reduceLeDiff, Int.reduceEq, reduceCtorEq, Int.reduceBEq, Int.reduceBNe, Int.reduceLT, Int.reduceNeg, hkP', decide_false]
        refine .inr ⟨by simp, ?_⟩
        simp only [bR] at hbr
        generalize clsH P v P.length = c at hbr ⊢
        by_cases hc1 : cntH P v P.length = 1
        · rw [if_pos hc1] at hbr
          rw [hc1]
          have hn1 : (((1 : Nat) : Int) != 1) = false := by decide
          have hcap : (out.length + 1) * 16 ≤ 140737488355328 := by omega
          by_cases ho : out.length = 0
          · have ho' : ((out.length : Int) == 0) = true := by simp [ho]
            have hnw : newB out c = true := by simp [newB, ho]
            rw [if_pos hnw] at hbr
            simp only [D0, ains, appG, clsOf, abin, aint, aun, dnext, rowsOf, loadObj, cellsOf, ofCells, bnd, hmerge, Nat.reduceBEq, Nat.reduceAdd, reduceIte, Nat.reduceEqDiff, Nat.reduceLeDiff, Int.reduceEq, reduceCtorEq, Int.reduceBEq, Int.reduceBNe, Int.reduceLT, Int.reduceNeg, hn1, ho', h', hg, hp, hcap, fz, fzd, fzd.fzcells, setRows, decide_true, Int.natCast_nonneg, Int.toNat_natCast, List.length_map]
            simp only [F1, bodyRes, one, ains, appG, clsOf, abin, aint, aun, dnext, rowsOf, loadObj, cellsOf, ofCells, bnd, hmerge, Nat.reduceBEq, Nat.reduceAdd, reduceIte, Nat.reduceEqDiff, Nat.reduceLeDiff, Int.reduceEq, reduceCtorEq, Int.reduceBEq, Int.reduceBNe, Int.reduceLT, Int.reduceNeg]
            exact ⟨h, out ++ [(v, (c : Int))], by simp, by simp, h, by simp; omega, hbr⟩
          · have ho' : ((out.length : Int) == 0) = false := beq_eq_false_iff_ne.2 (by omega)
            have hw1 := wrapm (j := out.length) (by omega) (by omega)
            have hgo := map_get (f := fun x : Int × Int => [AV.int .i64 x.1, AV.int .i64 x.2]) (l := out) (j := out.length - 1) (by omega) (0, 0)
            have hlo : ((out.length - 1 : Nat) : Int) < (out.length : Int) := by omega
            have hnw : newB out c = decide ((out.getD (out.length - 1) (0, 0)).2 ≠ c) := by simp [newB, ho]
            generalize out.getD (out.length - 1) (0, 0) = y at hgo hnw
            obtain ⟨y1, y2⟩ := y
            by_cases hyc : y2 = (c : Int)
            · have hyc' : (y2 != (c : Int)) = false := by simp [hyc]
              have hnw2 : ¬ newB out c = true := by rw [hnw]; simp [hyc]
              rw [if_neg hnw2] at hbr
              simp only [D0, ains, appG, clsOf, abin, aint, aun, dnext, rowsOf, loadObj, cellsOf, ofCells, bnd, hmerge, Nat.reduceBEq, Nat.reduceAdd, reduceIte, Nat.reduceEqDiff, Nat.reduceLeDiff, Int.reduceEq, reduceCtorEq, Int.reduceBEq, Int.reduceBNe, Int.reduceLT, Int.reduceNeg, hn1, ho', hw1, hgo, hlo, hyc', h', hg, hp, decide_true, Int.natCast_nonneg, Int.toNat_natCast, List.length_map]
              simp only [F1, bodyRes, one, ains, appG, clsOf, abin, aint, aun, dnext, rowsOf, loadObj, cellsOf, ofCells, bnd, hmerge, Nat.reduceBEq, Nat.reduceAdd, reduceIte, Nat.reduceEqDiff, Nat.reduceLeDiff, Int.reduceEq, reduceCtorEq, Int.reduceBEq, Int.reduceBNe, Int.reduceLT, Int.reduceNeg]
              exact ⟨h, out, rfl, rfl, h, by omega, hbr⟩
            · have hyc' : (y2 != (c : Int)) = true := by simp [hyc]
              have hnw2 : newB out c = true := by rw [hnw]; simp [hyc]
              rw [if_pos hnw2] at hbr
              simp only [D0, ains, appG, clsOf, abin, aint, aun, dnext, rowsOf, loadObj, cellsOf, ofCells, bnd, hmerge, Nat.reduceBEq, Nat.reduceAdd, reduceIte, Nat.reduceEqDiff, Nat.reduceLeDiff, Int.reduceEq, reduceCtorEq, Int.reduceBEq, Int.reduceBNe, Int.reduceLT, Int.reduceNeg, hn1, ho', hw1, hgo, hlo, hyc', h', hg, hp, hcap, fz, fzd, fzd.fzcells, setRows, decide_true, Int.natCast_nonneg, Int.toNat_natCast, List.length_map]
              simp only [F1, bodyRes, one, ains, appG, clsOf, abin, aint, aun, dnext, rowsOf, loadObj, cellsOf, ofCells, bnd, hmerge, Nat.reduceBEq, Nat.reduceAdd, reduceIte, Nat.reduceEqDiff, Nat.reduceLeDiff, Int.reduceEq, reduceCtorEq, Int.reduceBEq, Int.reduceBNe, Int.reduceLT, Int.reduceNeg]
              exact ⟨h, out ++ [(v, (c : Int))], by simp, by simp, h, by simp; omega, hbr⟩
        · rw [if_neg hc1] at hbr
          have hn1 : ((cntH P v P.length : Int) != 1) = true := by simp only [bne_iff_ne]; omega
          simp only [D0, ains, appG, clsOf, abin, aint, aun, dnext, rowsOf, loadObj, cellsOf, ofCells, bnd, hmerge, Nat.reduceBEq, Nat.reduceAdd, reduceIte, Nat.reduceEqDiff, Nat.reduceLeDiff, Int.reduceEq, reduceCtorEq, Int.reduceBEq, Int.reduceBNe, Int.reduceLT, Int.reduceNeg, hn1]
          simp only [F1, bodyRes, one, ains, appG, clsOf, abin, aint, aun, dnext, rowsOf, loadObj, cellsOf, ofCells, bnd, hmerge, Nat.reduceBEq, Nat.reduceAdd, reduceIte, Nat.reduceEqDiff, Nat.reduceLeDiff, Int.reduceEq, reduceCtorEq, Int.reduceBEq, Int.reduceBNe, Int.reduceLT, Int.reduceNeg, fn1009_res, fn1009_keep, fz, fzd, fzd.fzcells, hbr, Option.getD_none, Option.isSome_none, List.map_nil]
    · have h' : ¬ (i : Int) < (z.length : Int) := by omega
      have hil : i = z.length := by omega
      rw [hil, List.drop_length] at hbr
      have hbr : bR P z [] = some out := hbr
      simp only [D0, ains, appG, clsOf, abin, aint, aun, dnext, rowsOf, loadObj, cellsOf, ofCells, bnd, hmerge, Nat.reduceBEq, Nat.reduceAdd, reduceIte, Nat.reduceEqDiff, Nat.reduceLeDiff, Int.reduceEq, reduceCtorEq, Int.reduceBEq, Int.reduceBNe, Int.reduceLT, Int.reduceNeg, h', decide_false]
      refine .inr ⟨by simp, ?_⟩
      simp only [F1, bodyRes, one, ains, appG, clsOf, abin, aint, aun, dnext, rowsOf, loadObj, cellsOf, ofCells, bnd, hmerge, Nat.reduceBEq, Nat.reduceAdd, reduceIte, Nat.reduceEqDiff, Nat.reduceLeDiff, Int.reduceEq, reduceCtorEq, Int.reduceBEq, Int.reduceBNe, Int.reduceLT, Int.reduceNeg, fn1009_res, fn1009_keep, fz, fzd, fzd.fzcells, hbr, Option.getD_some, Option.isSome_some, List.length_map]
noncomputable def k1009 : Kon ((List (List (Int × Int)))) := ⟨fun x => x.length ≤ 1000 ∧ lenS x ≤ 1000 ∧ ∀ s ∈ x, s.length ≤ 1000000, fun x => [(AV.list 1 (List.map (fun s => [(AV.list 2 (List.map (fun x => [AV.int .i64 x.1, AV.int .i64 x.2]) (s)))]) (x)))], fun x => .tuple [(AV.list 2 (List.map (fun x => [AV.int .i64 x.1, AV.int .i64 x.2]) ((bandsR x).getD []))), .bool (bandsR x).isSome]⟩
theorem e1009 (P : List (List (Int × Int))) (hd : P.length ≤ 1000 ∧ lenS P ≤ 1000 ∧ ∀ s ∈ P, s.length ≤ 1000000) (q0 : Id) (H0 : Heap) : k1009.ora q0 ([(AV.list 1 (List.map (fun s => [(AV.list 2 (List.map (fun x => [AV.int .i64 x.1, AV.int .i64 x.2]) (s)))]) (P)))]) H0 = some (.tuple [(AV.list 2 (List.map (fun x => [AV.int .i64 x.1, AV.int .i64 x.2]) ((bandsR P).getD []))), .bool (bandsR P).isSome], H0) := k1009.eq (setsInj) (P) hd q0 H0
theorem ook1009 : OraOK Tryz.prog (11 % 100000) k1009.ora := k1009.ok orders r14_ok (fun x hd => by simp [k1009, PU]) (fun x hd => by simp [k1009, PU]) (fun x hd => run1009 x hd.1 hd.2.1 hd.2.2)

end Go.Proofs.Abs

set_option linter.all false
set_option linter.constructorNameAsVariable false
set_option linter.defProp false
set_option linter.unusedVariables false
set_option linter.unusedSimpArgs false
set_option maxRecDepth 100000
set_option maxHeartbeats 16000000
namespace Go.Proofs.Abs
open Go
/-! 1013: caesuraref04.Within. -/
theorem run1013 (l ps : List (List R2)) (h0 : l.length ≤ 1000) (h1 : ps.length ≤ 1000) (hl : ∀ s ∈ l, s.length ≤ 400) (hps : ∀ s ∈ ps, s.length ≤ 400) :
    cwp r14 15 [] [(AV.list 1 (List.map (fun s => [(AV.list 2 (List.map (fun x => [AV.int .i64 x.1, AV.int .i64 x.2]) (s)))]) (l))), (AV.list 1 (List.map (fun s => [(AV.list 2 (List.map (fun x => [AV.int .i64 x.1, AV.int .i64 x.2]) (s)))]) (ps)))] [] (fun r H => r = .tuple [.list 1 (List.map (fun x => [(AV.list 1 (List.map (fun x => [AV.int .i64 x]) (x)))]) (withinV l ps)), .bool (withinB l ps)] ∧ H = []) := by
  refine run_fn (fn := fn1013) rfl rfl ?_
  simp only [fn1013_body, c1013, D0, ains, appG, clsOf, abin, aint, aun, dnext, rowsOf, loadObj, cellsOf, ofCells, bnd, hmerge, Nat.reduceBEq, Nat.reduceAdd, reduceIte, Nat.reduceEqDiff, Nat.reduceLeDiff, Int.reduceEq, reduceCtorEq, Int.reduceBEq, Int.reduceBNe, Int.reduceLT, Int.reduceNeg]
  refine lg_rule (fun j e H => e = [(0, (AV.list 1 (List.map (fun s => [(AV.list 2 (List.map (fun x => [AV.int .i64 x.1, AV.int .i64 x.2]) (s)))]) (l)))), (1, (AV.list 1 (List.map (fun s => [(AV.list 2 (List.map (fun x => [AV.int .i64 x.1, AV.int .i64 x.2]) (s)))]) (ps)))), (4, .own [0] 0), (5, .bool false), (6, .own [2] 0), (7, .int .i64 j)] ∧ H = [[([2], .row true true 56 1 []), ([0], .row true true 56 1 [])]] ∧ j ≤ ps.length ∧ ∀ i, i < j → goodS (ps.getD i []) = true) ps.length ?_ ?_
  · exact ⟨rfl, rfl, by simp, fun i hi => by omega⟩
  rintro j e H ⟨rfl, rfl, hj, hgd⟩
  simp only [D0, ains, appG, clsOf, abin, aint, aun, dnext, rowsOf, loadObj, cellsOf, ofCells, bnd, hmerge, Nat.reduceBEq, Nat.reduceAdd, reduceIte, Nat.reduceEqDiff, Nat.reduceLeDiff, Int.reduceEq, reduceCtorEq, Int.reduceBEq, Int.reduceBNe, Int.reduceLT, Int.reduceNeg]
  by_cases h : j < ps.length
  · have h' : (j : Int) < (ps.length : Int) := by omega
    have hp := wrapp (j := j) (by omega)
    have hg := map_get (f := fun s : List R2 => [(AV.list 2 (List.map (fun x => [AV.int .i64 x.1, AV.int .i64 x.2]) (s)))]) h []
    have hm := getD_memL h
    have hs9 : (ps.getD j []).length ≤ 9223372036854775807 := by have := hps _ hm; omega
    have hgj : goodS (ps.getD j []) = true → ∀ i, i < j + 1 → goodS (ps.getD i []) = true := fun e1 i hi => by
      by_cases k : i = j
      · rw [k]; exact e1
      · exact hgd i (by omega)
    have hbad : goodS (ps.getD j []) = false → withinB l ps = false := fun e => by
      unfold withinB
      have : ps.all goodS = false := by
        rw [Bool.eq_false_iff]
        intro k
        rw [List.all_eq_true] at k
        rw [k _ hm] at e
        cases e
      rw [this]; simp
    generalize ps.getD j [] = s at hg hs9 hgj hbad
    cases gs : goodS s with
    | true =>
      simp only [D0, ains, appG, clsOf, abin, aint, aun, dnext, rowsOf, loadObj, cellsOf, ofCells, bnd, hmerge, Nat.reduceBEq, Nat.reduceAdd, reduceIte, Nat.reduceEqDiff, Nat.reduceLeDiff, Int.reduceEq, reduceCtorEq, Int.reduceBEq, Int.reduceBNe, Int.reduceLT, Int.reduceNeg, h', hg, hp, hs9, @use_all r14 19 k57.ora rfl, e57, gs, decide_true, Int.natCast_nonneg, Int.toNat_natCast, List.length_map]
      simp only [F1, bodyRes, one, ains, appG, clsOf, abin, aint, aun, dnext, rowsOf, loadObj, cellsOf, ofCells, bnd, hmerge, Nat.reduceBEq, Nat.reduceAdd, reduceIte, Nat.reduceEqDiff, Nat.reduceLeDiff, Int.reduceEq, reduceCtorEq, Int.reduceBEq, Int.reduceBNe, Int.reduceLT, Int.reduceNeg]
      exact ⟨h, h, hgj gs⟩
    | false =>
      have hb := hbad gs
      have hv : withinV l ps = [] := by simp [withinV, hb]
      simp only [D0, ains, appG, clsOf, abin, aint, aun, dnext, rowsOf, loadObj, cellsOf, ofCells, bnd, hmerge, Nat.reduceBEq, Nat.reduceAdd, reduceIte, Nat.reduceEqDiff, Nat.reduceLeDiff, Int.reduceEq, reduceCtorEq, Int.reduceBEq, Int.reduceBNe, Int.reduceLT, Int.reduceNeg, h', hg, hp, hs9, @use_all r14 19 k57.ora rfl, e57, gs, decide_true, Int.natCast_nonneg, Int.toNat_natCast, List.length_map]
      simp only [F1, bodyRes, one, ains, appG, clsOf, abin, aint, aun, dnext, rowsOf, loadObj, cellsOf, ofCells, bnd, hmerge, Nat.reduceBEq, Nat.reduceAdd, reduceIte, Nat.reduceEqDiff, Nat.reduceLeDiff, Int.reduceEq, reduceCtorEq, Int.reduceBEq, Int.reduceBNe, Int.reduceLT, Int.reduceNeg, fn1013_res, fn1013_keep, fz, fzd, fzd.fzcells, hb, hv, List.map_nil]
  · have h' : ¬ (j : Int) < (ps.length : Int) := by omega
    have hjl : j = ps.length := by omega
    subst hjl
    have g2 : ∀ p ∈ ps, goodS p = true := fun p hp => by
      obtain ⟨c, hc, rfl⟩ := mem_getP hp
      exact hgd c hc
    have g2' : ps.all goodS = true := List.all_eq_true.2 g2
    clear hgd hj h
    simp only [D0, ains, appG, clsOf, abin, aint, aun, dnext, rowsOf, loadObj, cellsOf, ofCells, bnd, hmerge, Nat.reduceBEq, Nat.reduceAdd, reduceIte, Nat.reduceEqDiff, Nat.reduceLeDiff, Int.reduceEq, reduceCtorEq, Int.reduceBEq, Int.reduceBNe, Int.reduceLT, Int.reduceNeg, h', decide_false]
    refine .inr ⟨by simp, ?_⟩
    refine lg_rule (fun j e H => e = [(0, (AV.list 1 (List.map (fun s => [(AV.list 2 (List.map (fun x => [AV.int .i64 x.1, AV.int .i64 x.2]) (s)))]) (l)))), (1, (AV.list 1 (List.map (fun s => [(AV.list 2 (List.map (fun x => [AV.int .i64 x.1, AV.int .i64 x.2]) (s)))]) (ps)))), (4, .own [0] 0), (5, .bool false), (6, .own [2] j), (7, .int .i64 ps.length), (8, .int .i64 j)] ∧
      H = [[([2], .row true true 56 1 (List.map (fun x => [(AV.list 1 (List.map (fun x => [AV.int .i64 x]) (x)))]) ((l.take j).map fun s => wOne s ps ps.length))), ([0], .row true true 56 1 [])]] ∧ j ≤ l.length ∧ (l.take j).all (fun s => goodS s && wOk s ps ps.length) = true) l.length ?_ ?_
    · exact ⟨rfl, rfl, by simp, rfl⟩
    rintro j e H ⟨rfl, rfl, hj, hok⟩
    simp only [D0, ains, appG, clsOf, abin, aint, aun, dnext, rowsOf, loadObj, cellsOf, ofCells, bnd, hmerge, Nat.reduceBEq, Nat.reduceAdd, reduceIte, Nat.reduceEqDiff, Nat.reduceLeDiff, Int.reduceEq, reduceCtorEq, Int.reduceBEq, Int.reduceBNe, Int.reduceLT, Int.reduceNeg]
    by_cases h : j < l.length
    · have h' : (j : Int) < (l.length : Int) := by omega
      have hp := wrapp (j := j) (by omega)
      have hgl := map_get (f := fun s : List R2 => [(AV.list 2 (List.map (fun x => [AV.int .i64 x.1, AV.int .i64 x.2]) (s)))]) h []
      have hm := getD_memL h
      have hsl := hl _ hm
      have hs9 : (l.getD j []).length ≤ 9223372036854775807 := by omega
      have htk : (l.take (j + 1)).map (fun s => wOne s ps ps.length) = (l.take j).map (fun s => wOne s ps ps.length) ++ [wOne (l.getD j []) ps ps.length] := by rw [takeL_snoc h]; simp
      have hok2 : goodS (l.getD j []) = true → wOk (l.getD j []) ps ps.length = true → (l.take (j + 1)).all (fun s => goodS s && wOk s ps ps.length) = true := fun e1 e2 => by rw [takeL_snoc h, List.all_append, hok]; simp only [List.all_cons, List.all_nil, Bool.and_true, Bool.true_and, e1, e2]
      have hlen : ((l.take j).map fun s => wOne s ps ps.length).length = j := by simp; omega
      have hbad : (goodS (l.getD j []) && wOk (l.getD j []) ps ps.length) = false → withinB l ps = false := fun e => by
        rw [Bool.eq_false_iff]
        intro k
        unfold withinB at k
        simp only [Bool.and_eq_true, List.all_eq_true] at k
        rw [k.1.1 _ hm, k.2 _ hm] at e
        cases e
      have wq := fun hs : goodS (l.getD j []) = true => wOneR_eq hs g2
      have wk := fun hs : goodS (l.getD j []) = true => wOkR_eq hs g2
      have hgl2 := hgl
      generalize l.getD j [] = s at hgl hgl2 hsl hs9 hbad htk hok2 wq wk
      generalize (l.take j).map (fun s => wOne s ps ps.length) = W at htk hlen ⊢
      cases gs : goodS s with
      | false =>
        have hb := hbad (by rw [gs]; rfl)
        have hv : withinV l ps = [] := by simp [withinV, hb]
        simp only [D0, ains, appG, clsOf, abin, aint, aun, dnext, rowsOf, loadObj, cellsOf, ofCells, bnd, hmerge, Nat.reduceBEq, Nat.reduceAdd, reduceIte, Nat.reduceEqDiff, Nat.reduceLeDiff, Int.reduceEq, reduceCtorEq, Int.reduceBEq, Int.reduceBNe, Int.reduceLT, Int.reduceNeg, h', hgl, hs9, @use_all r14 19 k57.ora rfl, e57, gs, decide_true, Int.natCast_nonneg, Int.toNat_natCast, List.length_map]
        simp only [F1, bodyRes, one, ains, appG, clsOf, abin, aint, aun, dnext, rowsOf, loadObj, cellsOf, ofCells, bnd, hmerge, Nat.reduceBEq, Nat.reduceAdd, reduceIte, Nat.reduceEqDiff, Nat.reduceLeDiff, Int.reduceEq, reduceCtorEq, Int.reduceBEq, Int.reduceBNe, Int.reduceLT, Int.reduceNeg, fn1013_res, fn1013_keep, fz, fzd, fzd.fzcells, hb, hv, List.map_nil]
      | true =>
        have wq := wq gs
        have wk := wk gs
        rw [← wq] at htk
        rw [← wk] at hok2 hbad
        simp only [D0, ains, appG, clsOf, abin, aint, aun, dnext, rowsOf, loadObj, cellsOf, ofCells, bnd, hmerge, Nat.reduceBEq, Nat.reduceAdd, reduceIte, Nat.reduceEqDiff, Nat.reduceLeDiff, Int.reduceEq, reduceCtorEq, Int.reduceBEq, Int.reduceBNe, Int.reduceLT, Int.reduceNeg, h', hgl, hs9, @use_all r14 19 k57.ora rfl, e57, gs, decide_true, Int.natCast_nonneg, Int.toNat_natCast, List.length_map]
        refine lg_rule (fun i e H => e = [(0, (AV.list 1 (List.map (fun s => [(AV.list 2 (List.map (fun x => [AV.int .i64 x.1, AV.int .i64 x.2]) (s)))]) (l)))), (1, (AV.list 1 (List.map (fun s => [(AV.list 2 (List.map (fun x => [AV.int .i64 x.1, AV.int .i64 x.2]) (s)))]) (ps)))), (4, .own [0] 0), (5, .bool false), (6, .own [2] j), (7, .int .i64 ps.length), (8, .int .i64 j), (9, .own [6, j, 10] (wOneR s ps i).length), (10, .int .i64 i)] ∧
          H = [[([6, j, 10], .row true true 3 1 (List.map (fun x => [AV.int .i64 x]) (wOneR s ps i)))], [([2], .row true true 56 1 (List.map (fun x => [(AV.list 1 (List.map (fun x => [AV.int .i64 x]) (x)))]) W)), ([0], .row true true 56 1 [])]] ∧ i ≤ ps.length ∧ wOkR s ps i = true) ps.length ?_ ?_
        · exact ⟨rfl, rfl, by simp, rfl⟩
        rintro i e H ⟨rfl, rfl, hi, hki⟩
        simp only [D0, ains, appG, clsOf, abin, aint, aun, dnext, rowsOf, loadObj, cellsOf, ofCells, bnd, hmerge, Nat.reduceBEq, Nat.reduceAdd, reduceIte, Nat.reduceEqDiff, Nat.reduceLeDiff, Int.reduceEq, reduceCtorEq, Int.reduceBEq, Int.reduceBNe, Int.reduceLT, Int.reduceNeg]
        by_cases k : i < ps.length
        · have k' : (i : Int) < (ps.length : Int) := by omega
          have hpi := wrapp (j := i) (by omega)
          have hgp := map_get (f := fun s : List R2 => [(AV.list 2 (List.map (fun x => [AV.int .i64 x.1, AV.int .i64 x.2]) (s)))]) k []
          have hpl := hps _ (getD_memL k)
          have hwn := wOneR_next s ps i
          have hwk := wOkR_next s ps i
          have hwf := wOkR_false (s := s) k
          have hwl := wOneR_len s ps i
          rw [hki, Bool.true_and] at hwk
          generalize ps.getD i [] = q at hgp hpl hwn hwk hwf
          have hbl := both_len s q
          have hd1 : s.length + q.length ≤ 1000 := by omega
          have hb6 : (bothS s q).length ≤ 1000000 := by omega
          have hq6 : q.length ≤ 1000000 := by omega
          have hcap : ((wOneR s ps i).length + 1) * 8 ≤ 140737488355328 := by omega
          cases e1 : eqR s q with
          | true =>
            have e1' : (sizeS (bothS s q) == sizeS q) = true := by
              unfold eqR at e1
              rw [decide_eq_true_eq] at e1
              rw [e1]; simp
            rw [e1, if_pos rfl] at hwn
            rw [e1, Bool.true_or] at hwk
            simp only [D0, ains, appG, clsOf, abin, aint, aun, dnext, rowsOf, loadObj, cellsOf, ofCells, bnd, hmerge, Nat.reduceBEq, Nat.reduceAdd, reduceIte, Nat.reduceEqDiff, Nat.reduceLeDiff, Int.reduceEq, reduceCtorEq, Int.reduceBEq, Int.reduceBNe, Int.reduceLT, Int.reduceNeg, @use_all r14 20 k54.ora rfl, e54, @use_all r14 40 k61.ora rfl, e61, k', h', hgp, hgl, hpi, hd1, hb6, hq6, e1', hcap, fz, fzd, fzd.fzcells, lrc_x, apx, apart, apart1, needs, decide_true, Int.natCast_nonneg, Int.toNat_natCast, List.length_map]
            simp only [F1, bodyRes, one, ains, appG, clsOf, abin, aint, aun, dnext, rowsOf, loadObj, cellsOf, ofCells, bnd, hmerge, Nat.reduceBEq, Nat.reduceAdd, reduceIte, Nat.reduceEqDiff, Nat.reduceLeDiff, Int.reduceEq, reduceCtorEq, Int.reduceBEq, Int.reduceBNe, Int.reduceLT, Int.reduceNeg]
            rw [hwn]
            exact ⟨k, by simp, by simp, k, hwk⟩
          | false =>
            have e1' : (sizeS (bothS s q) == sizeS q) = false := by
              unfold eqR at e1
              rw [decide_eq_false_iff_not] at e1
              exact beq_eq_false_iff_ne.2 e1
            rw [e1] at hwn
            simp only [Bool.false_eq_true, if_false, List.append_nil] at hwn
            rw [e1, Bool.false_or] at hwk hwf
            by_cases e2 : sizeS (bothS s q) > 0
            · have hf := hwf (by rw [decide_eq_true e2]; rfl)
              have hb := hbad (by rw [gs, hf]; rfl)
              have hv : withinV l ps = [] := by simp [withinV, hb]
              simp only [D0, ains, appG, clsOf, abin, aint, aun, dnext, rowsOf, loadObj, cellsOf, ofCells, bnd, hmerge, Nat.reduceBEq, Nat.reduceAdd, reduceIte, Nat.reduceEqDiff, Nat.reduceLeDiff, Int.reduceEq, reduceCtorEq, Int.reduceBEq, Int.reduceBNe, Int.reduceLT, Int.reduceNeg, @use_all r14 20 k54.ora rfl, e54, @use_all r14 40 k61.ora rfl, e61, k', h', hgp, hgl, hpi, hd1, hb6, hq6, e1', e2, lrc_x, apx, apart, apart1, needs, decide_true, Int.natCast_nonneg, Int.toNat_natCast, List.length_map]
              simp only [F1, bodyRes, one, ains, appG, clsOf, abin, aint, aun, dnext, rowsOf, loadObj, cellsOf, ofCells, bnd, hmerge, Nat.reduceBEq, Nat.reduceAdd, reduceIte, Nat.reduceEqDiff, Nat.reduceLeDiff, Int.reduceEq, reduceCtorEq, Int.reduceBEq, Int.reduceBNe, Int.reduceLT, Int.reduceNeg, fn1013_res, fn1013_keep, fz, fzd, fzd.fzcells, hb, hv, List.map_nil]
            · have e2' : decide (0 < sizeS (bothS s q)) = false := by simpa using e2
              rw [e2'] at hwk
              simp only [D0, ains, appG, clsOf, abin, aint, aun, dnext, rowsOf, loadObj, cellsOf, ofCells, bnd, hmerge, Nat.reduceBEq, Nat.reduceAdd, reduceIte, Nat.reduceEqDiff, Nat.reduceLeDiff, Int.reduceEq, reduceCtorEq, Int.reduceBEq, Int.reduceBNe, Int.reduceLT, Int.reduceNeg, @use_all r14 20 k54.ora rfl, e54, @use_all r14 40 k61.ora rfl, e61, k', h', hgp, hgl, hpi, hd1, hb6, hq6, e1', e2, lrc_x, apx, apart, apart1, needs, decide_true, decide_false, Int.natCast_nonneg, Int.toNat_natCast, List.length_map]
              simp only [F1, bodyRes, one, ains, appG, clsOf, abin, aint, aun, dnext, rowsOf, loadObj, cellsOf, ofCells, bnd, hmerge, Nat.reduceBEq, Nat.reduceAdd, reduceIte, Nat.reduceEqDiff, Nat.reduceLeDiff, Int.reduceEq, reduceCtorEq, Int.reduceBEq, Int.reduceBNe, Int.reduceLT, Int.reduceNeg]
              rw [hwn]
              exact ⟨k, rfl, rfl, k, by rw [hwk]; rfl⟩
        · have k' : ¬ (i : Int) < (ps.length : Int) := by omega
          have hil : i = ps.length := by omega
          subst hil
          have hwl := wOneR_len s ps ps.length
          have hcap : (j + 1) * 24 ≤ 140737488355328 := by omega
          have hW : (List.map (fun x : List Int => [(AV.list 1 (List.map (fun x => [AV.int .i64 x]) (x)))]) W).length = j := by simp [hlen]
          simp only [D0, ains, appG, clsOf, abin, aint, aun, dnext, rowsOf, loadObj, cellsOf, ofCells, bnd, hmerge, Nat.reduceBEq, Nat.reduceAdd, reduceIte, Nat.reduceEqDiff, Nat.reduceLeDiff, Int.reduceEq, reduceCtorEq, Int.reduceBEq, Int.reduceBNe, Int.reduceLT, Int.reduceNeg, k', decide_false]
          refine .inr ⟨by simp, ?_⟩
          simp only [D0, ains, appG, clsOf, abin, aint, aun, dnext, rowsOf, loadObj, cellsOf, ofCells, bnd, hmerge, Nat.reduceBEq, Nat.reduceAdd, reduceIte, Nat.reduceEqDiff, Nat.reduceLeDiff, Int.reduceEq, reduceCtorEq, Int.reduceBEq, Int.reduceBNe, Int.reduceLT, Int.reduceNeg, hp, hcap, hW, fz, fzd, List.length_map]
          simp only [F1, bodyRes, one, ains, appG, clsOf, abin, aint, aun, dnext, rowsOf, loadObj, cellsOf, ofCells, bnd, hmerge, Nat.reduceBEq, Nat.reduceAdd, reduceIte, Nat.reduceEqDiff, Nat.reduceLeDiff, Int.reduceEq, reduceCtorEq, Int.reduceBEq, Int.reduceBNe, Int.reduceLT, Int.reduceNeg]
          rw [htk]
          exact ⟨h, by simp, h, hok2 gs hki⟩
    · have h' : ¬ (j : Int) < (l.length : Int) := by omega
      have hjl : j = l.length := by omega
      subst hjl
      rw [List.take_length] at hok ⊢
      have hb : withinB l ps = true := by
        unfold withinB
        simp only [Bool.and_eq_true, List.all_eq_true] at hok ⊢
        exact ⟨⟨fun s hs => (hok s hs).1, g2⟩, fun s hs => (hok s hs).2⟩
      have hv : withinV l ps = l.map fun s => wOne s ps ps.length := by simp [withinV, hb]
      have hW : (List.map (fun x : List Int => [(AV.list 1 (List.map (fun x => [AV.int .i64 x]) (x)))]) (l.map fun s => wOne s ps ps.length)).length = l.length := by simp
      simp only [D0, ains, appG, clsOf, abin, aint, aun, dnext, rowsOf, loadObj, cellsOf, ofCells, bnd, hmerge, Nat.reduceBEq, Nat.reduceAdd, reduceIte, Nat.reduceEqDiff, Nat.reduceLeDiff, Int.reduceEq, reduceCtorEq, Int.reduceBEq, Int.reduceBNe, Int.reduceLT, Int.reduceNeg, h', decide_false]
      refine .inr ⟨by simp, ?_⟩
      simp only [F1, bodyRes, one, ains, appG, clsOf, abin, aint, aun, dnext, rowsOf, loadObj, cellsOf, ofCells, bnd, hmerge, Nat.reduceBEq, Nat.reduceAdd, reduceIte, Nat.reduceEqDiff, Nat.reduceLeDiff, Int.reduceEq, reduceCtorEq, Int.reduceBEq, Int.reduceBNe, Int.reduceLT, Int.reduceNeg, fn1013_res, fn1013_keep, fz, fzd, fzd.fzcells, hb, hv, hW]
noncomputable def k1013 : Kon ((List (List (Int × Int))) × (List (List (Int × Int)))) := ⟨fun x => x.1.length ≤ 1000 ∧ x.2.length ≤ 1000 ∧ (∀ s ∈ x.1, s.length ≤ 400) ∧ ∀ s ∈ x.2, s.length ≤ 400, fun x => [(AV.list 1 (List.map (fun s => [(AV.list 2 (List.map (fun x => [AV.int .i64 x.1, AV.int .i64 x.2]) (s)))]) (x.1))), (AV.list 1 (List.map (fun s => [(AV.list 2 (List.map (fun x => [AV.int .i64 x.1, AV.int .i64 x.2]) (s)))]) (x.2)))], fun x => .tuple [.list 1 (List.map (fun y => [(AV.list 1 (List.map (fun x => [AV.int .i64 x]) (y)))]) (withinV x.1 x.2)), .bool (withinB x.1 x.2)]⟩
theorem e1013 (l : List (List (Int × Int))) (ps : List (List (Int × Int))) (hd : l.length ≤ 1000 ∧ ps.length ≤ 1000 ∧ (∀ s ∈ l, s.length ≤ 400) ∧ ∀ s ∈ ps, s.length ≤ 400) (q0 : Id) (H0 : Heap) : k1013.ora q0 ([(AV.list 1 (List.map (fun s => [(AV.list 2 (List.map (fun x => [AV.int .i64 x.1, AV.int .i64 x.2]) (s)))]) (l))), (AV.list 1 (List.map (fun s => [(AV.list 2 (List.map (fun x => [AV.int .i64 x.1, AV.int .i64 x.2]) (s)))]) (ps)))]) H0 = some (.tuple [.list 1 (List.map (fun y => [(AV.list 1 (List.map (fun x => [AV.int .i64 x]) (y)))]) (withinV l ps)), .bool (withinB l ps)], H0) := k1013.eq (sets2Inj) (l, ps) hd q0 H0
theorem ook1013 : OraOK Tryz.prog (15 % 100000) k1013.ora := k1013.ok orders r14_ok (fun x hd => by simp [k1013, PU]) (fun x hd => by simp [k1013, PU]) (fun x hd => run1013 x.1 x.2 hd.1 hd.2.1 hd.2.2.1 hd.2.2.2)

noncomputable def r15 : FT := upd (upd (upd (r14) 18 k1016.ora) 11 k1009.ora) 15 k1013.ora
theorem r15_ok : FTOK Tryz.prog r15 := upd_ok2 (f := 15) (upd_ok2 (f := 11) (upd_ok2 (f := 18) (r14_ok) ook1016) ook1009) ook1013

noncomputable def r16 : FT := upd r15 10 kB.ora
theorem r16_ok : FTOK Tryz.prog r16 := upd_ok2 (f := 10) r15_ok ookB
end Go.Proofs.Abs

set_option linter.all false
set_option linter.constructorNameAsVariable false
set_option linter.defProp false
set_option linter.unusedVariables false
set_option linter.unusedSimpArgs false
set_option maxRecDepth 100000
set_option maxHeartbeats 16000000
namespace Go.Proofs.Abs
open Go
/-! 1001: caesuralaw04.RefineTells. -/
theorem lenS_le3 {l : List (List R2)} {s : List R2} (h : s ∈ l) : s.length ≤ lenS l := by
  obtain ⟨a, b, rfl⟩ := List.append_of_mem h
  simp [lenS]
  omega
theorem fair_dom3 {l : List (List R2)} (h : fairB l = true) : l.length ≤ 150 ∧ lenS l ≤ 150 := by
  have h1 : fairN l ≤ 150 := by simpa [fairB] using h
  have h2 := fairN_len l
  refine ⟨by omega, ?_⟩
  have : ∀ l : List (List R2), fairN l ≤ 150 → lenS l ≤ fairN l := by
    intro l
    induction l with
    | nil => intro _; simp [lenS, fairN]
    | cons s l ih =>
      intro h
      simp only [fairN, List.map_cons, List.sum_cons] at h ⊢
      simp only [lenS, List.map_cons, List.sum_cons]
      have := ih (by simp only [fairN]; omega)
      simp only [lenS, fairN] at this
      omega
  have := this l h1
  omega
theorem parts_dom (l : List (List R2)) : (partsV l).length ≤ 256 ∧ lenS (partsV l) ≤ 2 * lenS l + 1 := by
  cases hb : partsB l with
  | true => have h := parted hb; exact ⟨h.num.2, h.len⟩
  | false => rw [(parts_no hb).1]; simp [lenS]
theorem bands_dom (P : List (List R2)) : ((bandsO P).getD []).length ≤ lenS P := by
  cases h : bandsO P with
  | none => simp
  | some b =>
    obtain ⟨b', h1, _, h2⟩ := bands_ok (tile_of_bands h)
    rw [h] at h1
    simp only [Option.some.injEq] at h1
    rw [h1]; exact h2
theorem within_dom (l ps : List (List R2)) : (withinV l ps).length ≤ l.length ∧ ∀ s ∈ withinV l ps, s.length ≤ ps.length := by
  unfold withinV
  split
  · refine ⟨by simp, fun s hs => ?_⟩
    obtain ⟨t, _, rfl⟩ := List.mem_map.1 hs
    exact wOne_length t ps ps.length
  · simp
def shAsked : ASh := .agg [shSet, .int .i64]
theorem okv_asked {v : AV} (h : Oka shAsked v) : ∃ x : List R2 × Int, v = .agg [(AV.list 2 (List.map (fun x => [AV.int .i64 x.1, AV.int .i64 x.2]) (x.1))), .int .i64 x.2] ∧ WfS x.1 ∧ I64 x.2 := by
  cases v with
  | agg r =>
    have h : OkL [shSet, .int .i64] r := h
    obtain ⟨hl, hv⟩ := h
    match r, hl with
    | [a, b], _ =>
      obtain ⟨s, rfl, hs⟩ := okv_set (hv 0 _ _ rfl rfl)
      obtain ⟨n, rfl, hn⟩ := okv_i64 (hv 1 _ _ rfl rfl)
      exact ⟨(s, n), rfl, hs, hn⟩
  | _ => exact h.elim
theorem run1001 (l m : List (List R2)) (x : List R2 × Int) (wl : l.length ≤ 9223372036854775807 ∧ ∀ s ∈ l, WfS s) (wm : m.length ≤ 9223372036854775807 ∧ ∀ s ∈ m, WfS s) (wx : WfS x.1 ∧ I64 x.2) :
    cwp r16 3 [] [(AV.list 1 (List.map (fun s => [(AV.list 2 (List.map (fun x => [AV.int .i64 x.1, AV.int .i64 x.2]) (s)))]) (l))), (AV.list 1 (List.map (fun s => [(AV.list 2 (List.map (fun x => [AV.int .i64 x.1, AV.int .i64 x.2]) (s)))]) (m))), .agg [(AV.list 2 (List.map (fun x => [AV.int .i64 x.1, AV.int .i64 x.2]) (x.1))), .int .i64 x.2]] [] (fun r H => r = .bool true ∧ H = []) := by
  obtain ⟨b, v⟩ := x
  simp only
  refine run_fn (fn := fn1001) rfl rfl ?_
  cases hf : fairB l with
  | false =>
    simp only [fn1001_body, c1001, D0, ains, appG, clsOf, abin, aint, aun, dnext, rowsOf, loadObj, cellsOf, ofCells, bnd, hmerge, Nat.reduceBEq, Nat.reduceAdd, reduceIte, Nat.reduceEqDiff, Nat.reduceLeDiff, Int.reduceEq, reduceCtorEq, Int.reduceBEq, Int.reduceBNe, Int.reduceLT, Int.reduceNeg, @use_all r16 5 k1003.ora rfl, e1003, hf, @use_all r16 6 kW.ora rfl, eW]
    simp only [F1, bodyRes, one, ains, appG, clsOf, abin, aint, aun, dnext, rowsOf, loadObj, cellsOf, ofCells, bnd, hmerge, Nat.reduceBEq, Nat.reduceAdd, reduceIte, Nat.reduceEqDiff, Nat.reduceLeDiff, Int.reduceEq, reduceCtorEq, Int.reduceBEq, Int.reduceBNe, Int.reduceLT, Int.reduceNeg, fn1001_res, fn1001_keep]
  | true => cases hfm : fairB m with
    | false =>
      simp only [fn1001_body, c1001, D0, ains, appG, clsOf, abin, aint, aun, dnext, rowsOf, loadObj, cellsOf, ofCells, bnd, hmerge, Nat.reduceBEq, Nat.reduceAdd, reduceIte, Nat.reduceEqDiff, Nat.reduceLeDiff, Int.reduceEq, reduceCtorEq, Int.reduceBEq, Int.reduceBNe, Int.reduceLT, Int.reduceNeg, @use_all r16 5 k1003.ora rfl, e1003, hf, hfm, @use_all r16 6 kW.ora rfl, eW]
      simp only [F1, bodyRes, one, ains, appG, clsOf, abin, aint, aun, dnext, rowsOf, loadObj, cellsOf, ofCells, bnd, hmerge, Nat.reduceBEq, Nat.reduceAdd, reduceIte, Nat.reduceEqDiff, Nat.reduceLeDiff, Int.reduceEq, reduceCtorEq, Int.reduceBEq, Int.reduceBNe, Int.reduceLT, Int.reduceNeg, fn1001_res, fn1001_keep]
    | true =>
      by_cases hb2 : b.length ≤ 200
      · have hb2' : ¬ (b.length : Int) > 200 := by omega
        obtain ⟨d1, d2⟩ := fair_dom3 hf
        obtain ⟨m1, m2⟩ := fair_dom3 hfm
        have d3 : ∀ s ∈ l, s.length ≤ 150 := fun s hs => Nat.le_trans (lenS_le3 hs) d2
        have m3 : ∀ s ∈ m, s.length ≤ 150 := fun s hs => Nat.le_trans (lenS_le3 hs) m2
        have q1 : l.length ≤ 1000 ∧ ∀ s ∈ l, s.length ≤ 1000000 := ⟨by omega, fun s hs => by have := d3 s hs; omega⟩
        have q2 : m.length ≤ 1000 ∧ ∀ s ∈ m, s.length ≤ 1000000 := ⟨by omega, fun s hs => by have := m3 s hs; omega⟩
        have q3 : l.length ≤ 1000 ∧ lenS l ≤ 1000 ∧ ∀ s ∈ l, s.length ≤ 1000000 := ⟨q1.1, by omega, q1.2⟩
        have q4 : m.length ≤ 1000 ∧ lenS m ≤ 1000 ∧ ∀ s ∈ m, s.length ≤ 1000000 := ⟨q2.1, by omega, q2.2⟩
        have q5 : l.length ≤ 1000 ∧ m.length ≤ 1000 ∧ (∀ s ∈ l, s.length ≤ 400000) ∧ ∀ s ∈ m, s.length ≤ 400000 := ⟨by omega, by omega, fun s hs => by have := d3 s hs; omega, fun s hs => by have := m3 s hs; omega⟩
        have q6 : l.length ≤ 1000 ∧ m.length ≤ 1000 ∧ (∀ s ∈ l, s.length ≤ 400) ∧ ∀ s ∈ m, s.length ≤ 400 := ⟨by omega, by omega, fun s hs => by have := d3 s hs; omega, fun s hs => by have := m3 s hs; omega⟩
        have hb6 : b.length ≤ 1000000 := by omega
        obtain ⟨p1, p2⟩ := parts_dom l
        have e14p := e1014 (partsV l) (partsV l) ⟨by omega, fun t ht => by have := lenS_le3 ht; omega⟩
        have e14l := e1014 l l ⟨by omega, fun t ht => by have := d3 t ht; omega⟩
        have e14m := e1014 m m ⟨by omega, fun t ht => by have := m3 t ht; omega⟩
        have hbd := bands_dom m
        have e15 := e1015 ((bandsO m).getD []) ((bandsO m).getD []) (by omega)
        obtain ⟨w1, w2⟩ := within_dom l m
        have e16 := e1016 (withinV l m) (withinV l m) ⟨by omega, fun t ht => by have := w2 t ht; omega⟩
        simp only [decide_true] at e14p e14l e14m e15 e16
        have e5l := e1005 l q1
        have e5m := e1005 m q2
        have e6 := e1006 l q3
        have e7 := e1007 l q3
        have e8 := eB m q4
        have e9 := e1009 m q4
        rw [bandsR_eq] at e9
        have e10 := e1010 b v hb6
        have e11 := e1011 b v hb6
        have e12 := e1012 l m q5
        have e13 := e1013 l m q6
        have hofs := ofR_ofBd b v
        generalize ofBd b v = ob at e10 hofs
        generalize ofR b v = oi at e11 hofs
        generalize partsV l = P at *
        generalize (bandsO m).getD [] = bs at *
        generalize (bandsO m).isSome = bi at *
        generalize withinV l m = W at *
        generalize withinB l m = wb at *
        generalize partsB l = pb at *
        have bb1 : ∀ t : Bool, (t == t) = true := fun t => by cases t <;> rfl
        rcases hofs with ⟨rfl, rfl⟩ | ⟨i, hi, rfl, rfl⟩
        · have hk1 : ¬ (-1 : Int) ≥ 0 := by decide
          simp only [fn1001_body, c1001, c1001_4, c1001_3, c1001_2, c1001_1, D0, ains, appG, clsOf, abin, aint, aun, dnext, rowsOf, loadObj, cellsOf, ofCells, bnd, hmerge, Nat.reduceBEq, Nat.reduceAdd, reduceIte, Nat.reduceEqDiff, Nat.reduceLeDiff, Int.reduceEq, reduceCtorEq, Int.reduceBEq, Int.reduceBNe, Int.reduceLT, Int.reduceNeg, @use_all r16 5 k1003.ora rfl, e1003, hf, hfm, hb2', hk1, bb1, @use_all r16 7 k1005.ora rfl, e5l, e5m, @use_all r16 8 k1006.ora rfl, e6, @use_all r16 9 k1007.ora rfl, e7, @use_all r16 10 kB.ora rfl, e8, @use_all r16 11 k1009.ora rfl, e9, @use_all r16 12 k1010.ora rfl, e10, @use_all r16 13 k1011.ora rfl, e11, @use_all r16 14 k1012.ora rfl, e12, @use_all r16 15 k1013.ora rfl, e13, @use_all r16 16 k1014.ora rfl, e14p, e14l, e14m, @use_all r16 17 k1015.ora rfl, e15, @use_all r16 18 k1016.ora rfl, e16, Option.getD_none, Option.isSome_none, decide_false, @use_all r16 6 kW.ora rfl, eW]
          simp only [F1, bodyRes, one, ains, appG, clsOf, abin, aint, aun, dnext, rowsOf, loadObj, cellsOf, ofCells, bnd, hmerge, Nat.reduceBEq, Nat.reduceAdd, reduceIte, Nat.reduceEqDiff, Nat.reduceLeDiff, Int.reduceEq, reduceCtorEq, Int.reduceBEq, Int.reduceBNe, Int.reduceLT, Int.reduceNeg, fn1001_res, fn1001_keep]
        · have hi' : (i : Int) < (b.length : Int) := by omega
          have hi0 : (i : Int) ≥ 0 := by omega
          have hg := map_get (f := fun x : Int × Int => [AV.int .i64 x.1, AV.int .i64 x.2]) hi (0, 0)
          generalize b.getD i (0, 0) = y at hg e10
          obtain ⟨y1, y2⟩ := y
          have hyy : (y2 != y2) = false := by simp
          simp only [fn1001_body, c1001, c1001_4, c1001_3, c1001_2, c1001_1, D0, ains, appG, clsOf, abin, aint, aun, dnext, rowsOf, loadObj, cellsOf, ofCells, bnd, hmerge, Nat.reduceBEq, Nat.reduceAdd, reduceIte, Nat.reduceEqDiff, Nat.reduceLeDiff, Int.reduceEq, reduceCtorEq, Int.reduceBEq, Int.reduceBNe, Int.reduceLT, Int.reduceNeg, @use_all r16 5 k1003.ora rfl, e1003, hf, hfm, hb2', hi', hi0, hg, hyy, bb1, @use_all r16 7 k1005.ora rfl, e5l, e5m, @use_all r16 8 k1006.ora rfl, e6, @use_all r16 9 k1007.ora rfl, e7, @use_all r16 10 kB.ora rfl, e8, @use_all r16 11 k1009.ora rfl, e9, @use_all r16 12 k1010.ora rfl, e10, @use_all r16 13 k1011.ora rfl, e11, @use_all r16 14 k1012.ora rfl, e12, @use_all r16 15 k1013.ora rfl, e13, @use_all r16 16 k1014.ora rfl, e14p, e14l, e14m, @use_all r16 17 k1015.ora rfl, e15, @use_all r16 18 k1016.ora rfl, e16, Option.getD_some, Option.isSome_some, decide_true, Int.natCast_nonneg, Int.toNat_natCast, List.length_map, @use_all r16 6 kW.ora rfl, eW]
          simp only [F1, bodyRes, one, ains, appG, clsOf, abin, aint, aun, dnext, rowsOf, loadObj, cellsOf, ofCells, bnd, hmerge, Nat.reduceBEq, Nat.reduceAdd, reduceIte, Nat.reduceEqDiff, Nat.reduceLeDiff, Int.reduceEq, reduceCtorEq, Int.reduceBEq, Int.reduceBNe, Int.reduceLT, Int.reduceNeg, fn1001_res, fn1001_keep]
      · have hb2' : (b.length : Int) > 200 := by omega
        simp only [fn1001_body, c1001, D0, ains, appG, clsOf, abin, aint, aun, dnext, rowsOf, loadObj, cellsOf, ofCells, bnd, hmerge, Nat.reduceBEq, Nat.reduceAdd, reduceIte, Nat.reduceEqDiff, Nat.reduceLeDiff, Int.reduceEq, reduceCtorEq, Int.reduceBEq, Int.reduceBNe, Int.reduceLT, Int.reduceNeg, @use_all r16 5 k1003.ora rfl, e1003, hf, hfm, hb2', @use_all r16 6 kW.ora rfl, eW, decide_true]
        simp only [F1, bodyRes, one, ains, appG, clsOf, abin, aint, aun, dnext, rowsOf, loadObj, cellsOf, ofCells, bnd, hmerge, Nat.reduceBEq, Nat.reduceAdd, reduceIte, Nat.reduceEqDiff, Nat.reduceLeDiff, Int.reduceEq, reduceCtorEq, Int.reduceBEq, Int.reduceBNe, Int.reduceLT, Int.reduceNeg, fn1001_res, fn1001_keep]
end Go.Proofs.Abs
