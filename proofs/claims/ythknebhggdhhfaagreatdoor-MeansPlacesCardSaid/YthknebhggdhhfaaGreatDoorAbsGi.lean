/- A part of a proof: the text that states the row tells what is proved. No condition is laid on anything. -/
import Derived.Test.YthknebhggdhhfaaGreatDoorAbsGh
import Derived.Test.YthknebhggdhhfaaGreatDoorAbsGd
set_option linter.all false
set_option linter.constructorNameAsVariable false
set_option linter.defProp false
set_option linter.unusedVariables false
set_option linter.unusedSimpArgs false
set_option maxRecDepth 100000
set_option maxHeartbeats 4000000
namespace Go.Proofs.Abs
open Go
def inR (v : Int) (r : Int × Int) : Bool := decide (r.1 ≤ v) && decide (v ≤ r.2)
def hasS (s : List (Int × Int)) (v : Int) : Bool := goodS s && isS v && (List.range s.length).any fun i => inR v (s.getD i (0, 0))
theorem any_false {n : Nat} {f : Nat → Bool} (h : ∀ i, i < n → f i = false) : (List.range n).any f = false := by
  rw [List.any_eq_false]
  intro i hi
  simp [h i (List.mem_range.1 hi)]
theorem any_true {n i : Nat} {f : Nat → Bool} (hi : i < n) (h : f i = true) : (List.range n).any f = true := by
  rw [List.any_eq_true]
  exact ⟨i, List.mem_range.2 hi, h⟩
theorem run58 (s : List (Int × Int)) (v : Int) (hs : s.length ≤ 9223372036854775807) : cwp v7 69 [] [(AV.list 2 (List.map (fun x => [AV.int .i64 x.1, AV.int .i64 x.2]) (s))), .int .i64 v] [] (fun r H => r = .bool (hasS s v) ∧ H = []) := by
  refine run_fn (fn := fn58) rfl rfl ?_
  by_cases g : goodS s = true
  case neg =>
    have g' : goodS s = false := by simpa using g
    have hr : hasS s v = false := by simp [hasS, g']
    simp only [fn58_body, c58, D0, SP0, seval, -Int.reduceNatCast', @use_all v7 57 k56.ora rfl, e56, @use_all v7 80 k97.ora rfl, e97, hs, g']
    simp only [F1, SF0, SP0, seval, -Int.reduceNatCast', fn58_res, fn58_keep, hr]
  by_cases i : isS v = true
  case neg =>
    have i' : isS v = false := by simpa using i
    have hr : hasS s v = false := by simp [hasS, i']
    simp only [fn58_body, c58, D0, SP0, seval, -Int.reduceNatCast', @use_all v7 57 k56.ora rfl, e56, @use_all v7 80 k97.ora rfl, e97, hs, g, i']
    simp only [F1, SF0, SP0, seval, -Int.reduceNatCast', fn58_res, fn58_keep, hr]
  have hr : hasS s v = (List.range s.length).any fun i => inR v (s.getD i (0, 0)) := by simp [hasS, g, i]
  simp only [fn58_body, c58, D0, SP0, seval, -Int.reduceNatCast', @use_all v7 57 k56.ora rfl, e56, @use_all v7 80 k97.ora rfl, e97, hs, g, i]
  refine cg_code (fn := fn98) rfl rfl ?_
  simp only [fn98_body, c98, D0, SP0, seval, -Int.reduceNatCast']
  refine cg_code (fn := fn123) rfl rfl ?_
  simp only [fn123_body, c123, D0, SP0, seval, -Int.reduceNatCast']
  refine lg_rule (fun j e H => e = [(0, (AV.list 2 (List.map (fun x => [AV.int .i64 x.1, AV.int .i64 x.2]) (s)))), (1, .func 106 [.ref [0] 1 0 0]), (4, .int .i64 0), (7, .int .i64 s.length), (8, .int .i64 j)] ∧ H = [[], [], [([0], .box [.int .i64 v])]] ∧ j ≤ s.length ∧ ∀ i, i < j → inR v (s.getD i (0, 0)) = false) s.length ?_ ?_
  · exact ⟨rfl, rfl, by simp, by simp⟩
  rintro j e H ⟨rfl, rfl, hj, hi⟩
  simp only [D0, SP0, seval, -Int.reduceNatCast']
  by_cases h : j < s.length
  · have h' : (j : Int) < (s.length : Int) := by omega
    have hp := wrapp (j := j) (by omega)
    have hg := map_get (f := fun x : Int × Int => [AV.int .i64 x.1, AV.int .i64 x.2]) h (0, 0)
    have hjz : (j : Int) ≥ 0 := by omega
    have step : inR v (s.getD j (0, 0)) = false → ∀ i, i < j + 1 → inR v (s.getD i (0, 0)) = false := fun h1 i h2 => by
      by_cases e : i = j
      · rw [e]; exact h1
      · exact hi i (by omega)
    have yes : inR v (s.getD j (0, 0)) = true → hasS s v = true := fun h1 => by rw [hr]; exact any_true h h1
    clear hi
    generalize s.getD j (0, 0) = x at hg step yes
    obtain ⟨x, y⟩ := x
    by_cases h1 : x ≤ v
    · by_cases h2 : v ≤ y
      · have hy := yes (by simp [inR, h1, h2])
        clear yes step
        simp only [D0, SP0, seval, -Int.reduceNatCast', h', hg, rf_func, Nat.reduceLT, decide_true, Int.natCast_nonneg, Int.toNat_natCast]
        refine cg_code (fn := fn99) rfl rfl ?_
        simp only [fn99_body, c99, D0, SP0, seval, -Int.reduceNatCast', h1, h2, decide_true, decide_false]
        simp only [F1, SF0, SP0, seval, -Int.reduceNatCast', fn99_res, fn99_keep]
        simp only [D0, SP0, seval, -Int.reduceNatCast', hp]
        simp only [F1, SF0, SP0, seval, -Int.reduceNatCast', fn123_res, fn123_keep]
        simp only [D0, SP0, seval, -Int.reduceNatCast', hjz, decide_true]
        simp only [F1, SF0, SP0, seval, -Int.reduceNatCast', fn98_res, fn98_keep]
        try simp only [D0, SP0, seval, -Int.reduceNatCast']
        simp only [F1, SF0, SP0, seval, -Int.reduceNatCast', fn58_res, fn58_keep, hy]
      · have st := step (by simp [inR, h2])
        clear yes step
        simp only [D0, SP0, seval, -Int.reduceNatCast', h', hg, rf_func, Nat.reduceLT, decide_true, Int.natCast_nonneg, Int.toNat_natCast]
        refine cg_code (fn := fn99) rfl rfl ?_
        simp only [fn99_body, c99, D0, SP0, seval, -Int.reduceNatCast', h1, h2, decide_true, decide_false]
        simp only [F1, SF0, SP0, seval, -Int.reduceNatCast', fn99_res, fn99_keep]
        simp only [D0, SP0, seval, -Int.reduceNatCast', hp]
        simp only [F1, SF0, SP0, seval, -Int.reduceNatCast']
        exact ⟨h, h, st⟩
    · have st := step (by simp [inR, h1])
      clear yes step
      simp only [D0, SP0, seval, -Int.reduceNatCast', h', hg, rf_func, Nat.reduceLT, decide_true, Int.natCast_nonneg, Int.toNat_natCast]
      refine cg_code (fn := fn99) rfl rfl ?_
      simp only [fn99_body, c99, D0, SP0, seval, -Int.reduceNatCast', h1, decide_true, decide_false]
      simp only [F1, SF0, SP0, seval, -Int.reduceNatCast', fn99_res, fn99_keep]
      simp only [D0, SP0, seval, -Int.reduceNatCast', hp]
      simp only [F1, SF0, SP0, seval, -Int.reduceNatCast']
      exact ⟨h, h, st⟩
  · have h' : ¬ (j : Int) < (s.length : Int) := by omega
    have he : hasS s v = false := by rw [hr]; exact any_false fun i h1 => hi i (by omega)
    simp only [D0, SP0, seval, -Int.reduceNatCast', h', decide_false]
    refine .inr ⟨by simp, ?_⟩
    simp only [F1, SF0, SP0, seval, -Int.reduceNatCast', fn123_res, fn123_keep]
    have hneg : ¬ (-1 : Int) ≥ 0 := by decide
    simp only [D0, SP0, seval, -Int.reduceNatCast', hneg, decide_false]
    simp only [F1, SF0, SP0, seval, -Int.reduceNatCast', fn98_res, fn98_keep]
    try simp only [D0, SP0, seval, -Int.reduceNatCast']
    simp only [F1, SF0, SP0, seval, -Int.reduceNatCast', fn58_res, fn58_keep, he]
noncomputable def k58 : Kon ((List (Int × Int)) × Int) := ⟨fun x => x.1.length ≤ 9223372036854775807, fun x => [(AV.list 2 (List.map (fun x => [AV.int .i64 x.1, AV.int .i64 x.2]) (x.1))), .int .i64 x.2], fun x => .bool (hasS x.1 x.2)⟩
theorem e58 (s : List (Int × Int)) (v : Int) (hd : s.length ≤ 9223372036854775807) (q0 : Id) (H0 : Heap) : k58.ora q0 ([(AV.list 2 (List.map (fun x => [AV.int .i64 x.1, AV.int .i64 x.2]) (s))), .int .i64 v]) H0 = some (.bool (hasS s v), H0) := k58.eq (by dsimp only [k58]; rintro ⟨a, m⟩ ⟨b, n⟩ h; simp only [List.cons.injEq, AV.int.injEq, and_true, true_and] at h; rw [eSet_inj (a := a) (b := b) h.1, h.2]) (s, v) hd q0 H0
theorem ook58 : OraOK Tryz.prog (69 % 100000) k58.ora := k58.ok orders v7_ok (fun x hd => by simp [k58, PU]) (fun x hd => by simp [k58, PU]) (fun x hd => run58 x.1 x.2 hd)

end Go.Proofs.Abs

set_option maxRecDepth 100000
namespace Go.Proofs.Abs
open Go
def tk (t : List Nd) (l : List Int) (n i j : Nat) : Bool :=
  let x := t.getD n default
  if x.kind = 1 then decide (i = j)
  else if x.kind = 2 then decide (j = i + 1) && hasS x.set (l.getD i 0)
  else if x.kind = 4 then (if h : x.a.toNat < n then tk t l x.a.toNat i j else false) || (if h : x.b.toNat < n then tk t l x.b.toNat i j else false)
  else if x.kind = 3 then (List.range (j + 1 - i)).any fun d => (if h : x.a.toNat < n then tk t l x.a.toNat i (i + d) else false) && (if h : x.b.toNat < n then tk t l x.b.toNat (i + d) j else false)
  else if x.kind = 5 then decide (i = j) || (List.range (j - i)).any fun d => (if h : x.a.toNat < n then tk t l x.a.toNat i (i + 1 + d) else false) && (if h : i + 1 + d ≤ j then tk t l n (i + 1 + d) j else false)
  else false
termination_by (n, j - i)
decreasing_by
  all_goals first | exact Prod.Lex.left _ _ (by assumption) | exact Prod.Lex.right _ (by omega)
def takesT (t : List Nd) (l : List Int) : Bool := goodT t && tk t l (t.length - 1) 0 l.length
section
variable {t : List Nd} {l : List Int} {n i j : Nat}
theorem tk_empty (h : (t.getD n default).kind = 1) : tk t l n i j = decide (i = j) := by
  rw [tk]; generalize t.getD n default = x at *; simp [h]
theorem tk_one (h : (t.getD n default).kind = 2) : tk t l n i j = (decide (j = i + 1) && hasS (t.getD n default).set (l.getD i 0)) := by
  rw [tk]; generalize t.getD n default = x at *; simp [h]
theorem tk_alt (h : (t.getD n default).kind = 4) {a b : Nat} (ha : (t.getD n default).a = a) (hb : (t.getD n default).b = b) (h1 : a < n) (h2 : b < n) : tk t l n i j = (tk t l a i j || tk t l b i j) := by
  rw [tk]; generalize t.getD n default = x at *; simp [h, ha, hb, h1, h2]
theorem tk_cat (h : (t.getD n default).kind = 3) {a b : Nat} (ha : (t.getD n default).a = a) (hb : (t.getD n default).b = b) (h1 : a < n) (h2 : b < n) : tk t l n i j = (List.range (j + 1 - i)).any fun d => tk t l a i (i + d) && tk t l b (i + d) j := by
  rw [tk]; generalize t.getD n default = x at *; simp [h, ha, hb, h1, h2]
theorem any_congr {m : Nat} {f g : Nat → Bool} (h : ∀ d, d < m → f d = g d) : (List.range m).any f = (List.range m).any g := by
  rw [Bool.eq_iff_iff]
  simp only [List.any_eq_true, List.mem_range]
  constructor
  · rintro ⟨d, hd, e⟩; exact ⟨d, hd, by rw [← h d hd]; exact e⟩
  · rintro ⟨d, hd, e⟩; exact ⟨d, hd, by rw [h d hd]; exact e⟩
theorem tk_star (h : (t.getD n default).kind = 5) {a : Nat} (ha : (t.getD n default).a = a) (h1 : a < n) : tk t l n i j = (decide (i = j) || (List.range (j - i)).any fun d => tk t l a i (i + 1 + d) && tk t l n (i + 1 + d) j) := by
  rw [tk]
  generalize t.getD n default = x at *
  simp only [h, ha, Int.toNat_natCast, h1, dite_true]
  rw [if_neg (by decide), if_neg (by decide), if_neg (by decide), if_neg (by decide), if_true]
  congr 1
  refine any_congr fun d hd => ?_
  have : i + 1 + d ≤ j := by omega
  simp [this]
theorem tk_other (h1 : (t.getD n default).kind ≠ 1) (h2 : (t.getD n default).kind ≠ 2) (h3 : (t.getD n default).kind ≠ 3) (h4 : (t.getD n default).kind ≠ 4) (h5 : (t.getD n default).kind ≠ 5) : tk t l n i j = false := by
  rw [tk]; generalize t.getD n default = x at *; simp [h1, h2, h3, h4, h5]
end
def K3 (n i j : Nat) : AV := .agg [.int .i64 n, .int .i64 i, .int .i64 j]
def b01 (b : Bool) : AV := .int .i64 (if b then 1 else 0)
def Memo (t : List Nd) (l : List Int) (es : List (AV × AV)) : Prop := ∀ e ∈ es, ∃ n i j, e = (K3 n i j, b01 (tk t l n i j))
theorem keyEq_K3 (n i j n' i' j' : Nat) : keyEq 3 [0, 0, 0] (K3 n i j) (K3 n' i' j') = some (decide (n = n' ∧ i = i' ∧ j = j')) := by
  unfold keyEq K3
  simp only [acells, if_true]
  by_cases h1 : n = n'
  · subst h1
    by_cases h2 : i = i'
    · subst h2
      by_cases h3 : j = j'
      · subst h3; simp
      · have : ((j : Int) == (j' : Int)) = false := by
          simp only [beq_eq_false_iff_ne]; omega
        simp [this, h3]
    · have : ((i : Int) == (i' : Int)) = false := by
          simp only [beq_eq_false_iff_ne]; omega
      simp [this, h2]
  · have : ((n : Int) == (n' : Int)) = false := by
          simp only [beq_eq_false_iff_ne]; omega
    simp [this, h1]
theorem memo_find {t : List Nd} {l : List Int} {es : List (AV × AV)} (h : Memo t l es) (n i j : Nat) : mfind 3 [0, 0, 0] es (K3 n i j) = some none ∨ mfind 3 [0, 0, 0] es (K3 n i j) = some (some (b01 (tk t l n i j))) := by
  induction es with
  | nil =>
    left
    unfold mfind
    rw [keyEq_K3]
  | cons e es ih =>
    obtain ⟨n', i', j', rfl⟩ := h e (by simp)
    unfold mfind
    rw [keyEq_K3]
    by_cases hk : n = n' ∧ i = i' ∧ j = j'
    · obtain ⟨rfl, rfl, rfl⟩ := hk
      right
      simp
    · simp only [hk, decide_false]
      exact ih fun e he => h e (by simp [he])
theorem memo_put {t : List Nd} {l : List Int} {es : List (AV × AV)} (h : Memo t l es) (n i j : Nat) : ∃ pre post, Memo t l (pre ++ post) ∧ (∀ v, mput 3 [0, 0, 0] es (K3 n i j) v = some (pre ++ (K3 n i j, v) :: post)) ∧
    ∀ v0 v, mput 3 [0, 0, 0] (pre ++ (K3 n i j, v0) :: post) (K3 n i j) v = some (pre ++ (K3 n i j, v) :: post) := by
  induction es with
  | nil =>
    refine ⟨[], [], by simpa using h, fun v => ?_, fun v0 v => ?_⟩
    · unfold mput
      rw [keyEq_K3]
      rfl
    · simp only [List.nil_append]
      unfold mput
      rw [keyEq_K3]
      simp
  | cons e es ih =>
    obtain ⟨n', i', j', rfl⟩ := h e (by simp)
    by_cases hk : n = n' ∧ i = i' ∧ j = j'
    · obtain ⟨rfl, rfl, rfl⟩ := hk
      refine ⟨[], es, fun e he => h e (by simp at he; simp [he]), fun v => ?_, fun v0 v => ?_⟩
      · unfold mput
        rw [keyEq_K3]
        simp
      · simp only [List.nil_append]
        unfold mput
        rw [keyEq_K3]
        simp
    · obtain ⟨pre, post, h1, h2, h3⟩ := ih fun e he => h e (by simp [he])
      refine ⟨(K3 n' i' j', b01 (tk t l n' i' j')) :: pre, post, fun e he => ?_, fun v => ?_, fun v0 v => ?_⟩
      · rw [List.cons_append, List.mem_cons] at he
        rcases he with rfl | he
        · exact ⟨_, _, _, rfl⟩
        · exact h1 e he
      · unfold mput
        rw [keyEq_K3]
        simp only [hk, decide_false, h2 v, Option.map_some, List.cons_append]
      · rw [List.cons_append]
        unfold mput
        rw [keyEq_K3]
        simp only [hk, decide_false, h3 v0 v, Option.map_some, List.cons_append]
theorem memo_new {t : List Nd} {l : List Int} {pre post : List (AV × AV)} (h : Memo t l (pre ++ post)) (n i j : Nat) : Memo t l (pre ++ (K3 n i j, b01 (tk t l n i j)) :: post) := by
  intro e he
  rw [List.mem_append, List.mem_cons] at he
  rcases he with he | rfl | he
  · exact h e (by simp [he])
  · exact ⟨_, _, _, rfl⟩
  · exact h e (by simp [he])
end Go.Proofs.Abs

set_option maxRecDepth 100000
set_option maxHeartbeats 4000000
namespace Go.Proofs.Abs
open Go
structure Bs (t : List Nd) (l : List Int) (H0 : Heap) : Prop where
  h8 : hget H0 [8] = some (.box [(AV.list 5 (List.map eNd t)), (AV.list 1 (List.map (fun x => [AV.int .i64 x]) (l))), .map [6]])
  h6 : (hget H0 [6]).isSome = true
section
variable {t : List Nd} {l : List Int} {H0 : Heap}
theorem Bs.g6 (h : Bs t l H0) (es : List (AV × AV)) : hget (hset H0 [6] (.map es)) [6] = some (.map es) := by rw [hget_hset]; simp [h.h6]
theorem Bs.g8 (h : Bs t l H0) (es : List (AV × AV)) : hget (hset H0 [6] (.map es)) [8] = some (.box [(AV.list 5 (List.map eNd t)), (AV.list 1 (List.map (fun x => [AV.int .i64 x]) (l))), .map [6]]) := by rw [hget_hset]; simp [h.h8]
theorem Bs.cons (h : Bs t l H0) {g : Fr} (h8 : fget g [8] = none) (h6 : fget g [6] = none) : Bs t l (g :: H0) := ⟨by simp [hget, h8, h.h8], by simp [hget, h6, h.h6]⟩
theorem hset_cons {g : Fr} (h6 : fget g [6] = none) (x : AObj) : hset (g :: H0) [6] x = g :: hset H0 [6] x := by simp [hset, h6]
end
noncomputable def w0 : FT := upd (v7) 69 k58.ora
theorem w0_ok : FTOK Tryz.prog w0 := upd_ok2 (f := 69) (v7_ok) ook58

def Ans (t : List Nd) (l : List Int) (H0 : Heap) (b : Bool) (v : AV) (H : Heap) : Prop := v = .bool b ∧ ∃ es, Memo t l es ∧ H = hset H0 [6] (.map es)
def Tk (t : List Nd) (l : List Int) (n i j : Nat) : Prop := ∀ (H0 : Heap), Bs t l H0 → ∀ es, Memo t l es → ∀ q : Id, q ≠ [] →
  cwp w0 56 q [.ref [8] 1 0 0, .int .i64 n, .int .i64 i, .int .i64 j] (hset H0 [6] (.map es)) (Ans t l H0 (tk t l n i j))
theorem Tk.fr {t : List Nd} {l : List Int} {n i j : Nat} (h : Tk t l n i j) {H0 : Heap} (hb : Bs t l H0) {es : List (AV × AV)} (hm : Memo t l es) {q : Id} (hq : q ≠ []) {g : Fr} (h8 : fget g [8] = none) (h6 : fget g [6] = none)
    {d : Option Nat} {r : List AIn} {k : Nat} {drop : List Nat} {ks : List Kt} {Q : Fin} {s : St}
    (hk : ∀ es, Memo t l es → rg w0 r k drop ks Q { s with env := putd s.env d (.bool (tk t l n i j)), heap := g :: hset H0 [6] (.map es), k := s.k + 1 }) :
    cg w0 56 q [.ref [8] 1 0 0, .int .i64 n, .int .i64 i, .int .i64 j] (g :: hset H0 [6] (.map es)) d r k drop ks Q s := by
  have := h (g :: H0) (hb.cons h8 h6) es hm q hq
  rw [hset_cons h6] at this
  refine cg_use this ?_
  rintro v H' ⟨rfl, es', hm', rfl⟩
  rw [hset_cons h6]
  exact hk es' hm'
theorem Tk.fr2 {t : List Nd} {l : List Int} {n i j : Nat} (h : Tk t l n i j) {H0 : Heap} (hb : Bs t l H0) {es : List (AV × AV)} (hm : Memo t l es) {q : Id} (hq : q ≠ []) {g g2 : Fr} (h8 : fget g [8] = none) (h6 : fget g [6] = none) (h8' : fget g2 [8] = none) (h6' : fget g2 [6] = none)
    {d : Option Nat} {r : List AIn} {k : Nat} {drop : List Nat} {ks : List Kt} {Q : Fin} {s : St}
    (hk : ∀ es, Memo t l es → rg w0 r k drop ks Q { s with env := putd s.env d (.bool (tk t l n i j)), heap := g :: g2 :: hset H0 [6] (.map es), k := s.k + 1 }) :
    cg w0 56 q [.ref [8] 1 0 0, .int .i64 n, .int .i64 i, .int .i64 j] (g :: g2 :: hset H0 [6] (.map es)) d r k drop ks Q s := by
  have e : ∀ x, g :: g2 :: hset H0 [6] x = g :: hset (g2 :: H0) [6] x := fun x => by rw [hset_cons h6']
  rw [e]
  refine h.fr (hb.cons h8' h6') hm hq h8 h6 fun es2 hm2 => ?_
  rw [← e]
  exact hk es2 hm2
def spl (t : List Nd) (l : List Int) (a b fr i j : Nat) : Bool := (List.range (j + 1 - fr)).any fun d => tk t l a i (fr + d) && tk t l b (fr + d) j
theorem run126 {t : List Nd} {l : List Int} {a b fr i j : Nat} (hj : j ≤ 1000000) (h1 : ∀ k, fr ≤ k → k ≤ j → Tk t l a i k) (h2 : ∀ k, fr ≤ k → k ≤ j → Tk t l b k j) (hfr : fr ≤ j + 1) :
    ∀ (H0 : Heap), Bs t l H0 → ∀ es, Memo t l es → ∀ q : Id, q ≠ [] → cwp w0 126 q [.ref [8] 1 0 0, .int .i64 a, .int .i64 b, .int .i64 fr, .int .i64 i, .int .i64 j] (hset H0 [6] (.map es)) (Ans t l H0 (spl t l a b fr i j)) := by
  intro H0 hb es hm q hq
  refine run_fn (fn := fn126) rfl rfl ?_
  simp only [fn126_body, c126, D0, SP0, seval, -Int.reduceNatCast']
  refine lg_rule (fun d e H => e = [(0, .ref [8] 1 0 0), (1, .int .i64 a), (2, .int .i64 b), (3, .int .i64 fr), (4, .int .i64 i), (5, .int .i64 j), (12, .bool false), (13, .int .i64 (fr + d : Nat))] ∧
    (∃ es, Memo t l es ∧ H = [] :: hset H0 [6] (.map es)) ∧ d ≤ j + 1 - fr ∧ ∀ d', d' < d → (tk t l a i (fr + d') && tk t l b (fr + d') j) = false) (j + 1 - fr) ?_ ?_
  · exact ⟨rfl, ⟨es, hm, rfl⟩, by omega, by simp⟩
  rintro d e H ⟨rfl, ⟨es, hm, rfl⟩, hd, hi⟩
  simp only [D0, SP0, seval, -Int.reduceNatCast']
  by_cases h : fr + d ≤ j
  · have h' : ((fr + d : Nat) : Int) ≤ (j : Int) := by omega
    have hp : IntKind.i64.wrap (((fr + d : Nat) : Int) + 1) = ((fr + (d + 1) : Nat) : Int) := wrapp (j := fr + d) (by omega)
    simp only [D0, SP0, seval, -Int.reduceNatCast', h', decide_true]
    refine (h1 (fr + d) (by omega) h).fr2 hb hm ?_ ?_ ?_ ?_ ?_ fun es2 hm2 => ?_
    · simp
    · rfl
    · rfl
    · rfl
    · rfl
    by_cases c1 : tk t l a i (fr + d) = true
    · simp only [D0, SP0, seval, -Int.reduceNatCast', c1]
      refine (h2 (fr + d) (by omega) h).fr2 hb hm2 ?_ ?_ ?_ ?_ ?_ fun es3 hm3 => ?_
      · simp
      · rfl
      · rfl
      · rfl
      · rfl
      by_cases c2 : tk t l b (fr + d) j = true
      · have hs : spl t l a b fr i j = true := any_true (i := d) (by omega) (by rw [c1, c2]; rfl)
        simp only [D0, SP0, seval, -Int.reduceNatCast', c2]
        simp only [F1, SF0, SP0, seval, -Int.reduceNatCast', fn126_res, fn126_keep, hs]
        exact ⟨rfl, es3, hm3, rfl⟩
      · have c2' : tk t l b (fr + d) j = false := by simpa using c2
        simp only [D0, SP0, seval, -Int.reduceNatCast', c2', hp]
        simp only [F1, SF0, SP0, seval, -Int.reduceNatCast']
        refine ⟨by omega, ⟨es3, hm3, rfl⟩, by omega, fun d' hd' => ?_⟩
        by_cases e : d' = d
        · subst e; rw [c2', Bool.and_false]
        · exact hi d' (by omega)
    · have c1' : tk t l a i (fr + d) = false := by simpa using c1
      simp only [D0, SP0, seval, -Int.reduceNatCast', c1', hp]
      simp only [F1, SF0, SP0, seval, -Int.reduceNatCast']
      refine ⟨by omega, ⟨es2, hm2, rfl⟩, by omega, fun d' hd' => ?_⟩
      by_cases e : d' = d
      · subst e; rw [c1', Bool.false_and]
      · exact hi d' (by omega)
  · have h' : ¬ ((fr + d : Nat) : Int) ≤ (j : Int) := by omega
    have hs : spl t l a b fr i j = false := any_false fun d' hd' => hi d' (by omega)
    simp only [D0, SP0, seval, -Int.reduceNatCast', h', decide_false]
    refine .inr ⟨by simp, ?_⟩
    simp only [F1, SF0, SP0, seval, -Int.reduceNatCast', fn126_res, fn126_keep, hs]
    exact ⟨rfl, es, hm, rfl⟩
end Go.Proofs.Abs

set_option maxRecDepth 100000
set_option maxHeartbeats 4000000
namespace Go.Proofs.Abs
open Go
theorem fget_one {q : Id} (hq : q ≠ []) (k m : Nat) (o : AObj) : fget [(q ++ [k], o)] [m] = none := by
  have : ¬ (q ++ [k] = [m]) := fun e => by
    have := congrArg List.length e
    have h2 : q.length ≠ 0 := fun e2 => hq (List.length_eq_zero_iff.1 e2)
    simp at this
    exact hq this
  simp [fget, this]
theorem An.fr {t : List Nd} {l : List Int} {f : Nat} {args : List AV} {B : Bool} (h : ∀ (H0 : Heap), Bs t l H0 → ∀ es, Memo t l es → ∀ q : Id, q ≠ [] → cwp w0 f q args (hset H0 [6] (.map es)) (Ans t l H0 B))
    {H0 : Heap} (hb : Bs t l H0) {es : List (AV × AV)} (hm : Memo t l es) {q : Id} (hq : q ≠ []) {g : Fr} (h8 : fget g [8] = none) (h6 : fget g [6] = none)
    {d : Option Nat} {r : List AIn} {k : Nat} {drop : List Nat} {ks : List Kt} {Q : Fin} {s : St}
    (hk : ∀ es, Memo t l es → rg w0 r k drop ks Q { s with env := putd s.env d (.bool B), heap := g :: hset H0 [6] (.map es), k := s.k + 1 }) :
    cg w0 f q args (g :: hset H0 [6] (.map es)) d r k drop ks Q s := by
  have := h (g :: H0) (hb.cons h8 h6) es hm q hq
  rw [hset_cons h6] at this
  refine cg_use this ?_
  rintro v H' ⟨rfl, es', hm', rfl⟩
  rw [hset_cons h6]
  exact hk es' hm'
theorem run105 {t : List Nd} {l : List Int} {n i j : Nat} {k a b : Int} {c : List (Int × Int)} {z : ByteArray} (hx : t.getD n default = ⟨k, a, b, c, z⟩) (hc : c.length ≤ 9223372036854775807) (hij : i ≤ j) (hj : j ≤ l.length) (hl : l.length ≤ 1000000)
    (alt : k = 4 → ∃ a' b' : Nat, a = a' ∧ b = b' ∧ a' < n ∧ b' < n ∧ Tk t l a' i j ∧ Tk t l b' i j)
    (cat : k = 3 → ∃ a' b' : Nat, a = a' ∧ b = b' ∧ a' < n ∧ b' < n ∧ (∀ m, i ≤ m → m ≤ j → Tk t l a' i m) ∧ (∀ m, i ≤ m → m ≤ j → Tk t l b' m j))
    (star : k = 5 → ∃ a' : Nat, a = a' ∧ a' < n ∧ (∀ m, i + 1 ≤ m → m ≤ j → Tk t l a' i m) ∧ (∀ m, i + 1 ≤ m → m ≤ j → Tk t l n m j)) :
    ∀ (H0 : Heap), Bs t l H0 → ∀ es, Memo t l es → ∀ q : Id, q ≠ [] → cwp w0 88 q [.ref [8] 1 0 0, .agg [AV.int .i64 (Nd.kind ⟨k, a, b, c, z⟩), AV.int .i64 (Nd.a ⟨k, a, b, c, z⟩), AV.int .i64 (Nd.b ⟨k, a, b, c, z⟩), (AV.list 2 (List.map (fun x => [AV.int .i64 x.1, AV.int .i64 x.2]) (Nd.set ⟨k, a, b, c, z⟩))), AV.str (Nd.name ⟨k, a, b, c, z⟩)], .int .i64 n, .int .i64 i, .int .i64 j] (hset H0 [6] (.map es)) (Ans t l H0 (tk t l n i j)) := by
  intro H0 hb es hm q hq
  refine run_fn (fn := fn105) rfl rfl ?_
  have h86 := fget_one hq
  have hnq : ∀ k m, ¬ (q ++ [k] = [m]) := fun k m e => by
    have := congrArg List.length e
    simp at this
    exact hq this
  have g8 := fun es => hb.g8 es
  by_cases k1 : k = 1
  · subst k1
    have ht := tk_empty (t := t) (l := l) (n := n) (i := i) (j := j) (by rw [hx])
    have he : ((i : Int) == (j : Int)) = decide (i = j) := by rw [Bool.eq_iff_iff]; simp; omega
    simp only [fn105_body, c105, D0, SP0, seval, -Int.reduceNatCast', he]
    simp only [F1, SF0, SP0, seval, -Int.reduceNatCast', fn105_res, fn105_keep]
    exact ⟨by rw [ht], es, hm, rfl⟩
  have k1' : (k == 1) = false := by simpa using k1
  by_cases k2 : k = 2
  · subst k2
    have ht := tk_one (t := t) (l := l) (n := n) (i := i) (j := j) (by rw [hx])
    rw [hx] at ht
    have hp := wrapp (j := i) (by omega)
    by_cases e : j = i + 1
    · have e' : ((j : Int) == ((i + 1 : Nat) : Int)) = true := by simp [e]
      have hgl := map_get (f := fun x : Int => [AV.int .i64 x]) (l := l) (j := i) (by omega) 0
      simp only [fn105_body, c105, D0, SP0, seval, -Int.reduceNatCast', @use_all w0 69 k58.ora rfl, e58, hc, hp, e', h86, hnq, g8, hgl, Int.natCast_nonneg, Int.toNat_natCast]
      simp only [F1, SF0, SP0, seval, -Int.reduceNatCast', fn105_res, fn105_keep]
      exact ⟨by rw [ht]; simp [e], es, hm, rfl⟩
    · have e' : ((j : Int) == ((i + 1 : Nat) : Int)) = false := by simp only [beq_eq_false_iff_ne]; omega
      simp only [fn105_body, c105, D0, SP0, seval, -Int.reduceNatCast', @use_all w0 69 k58.ora rfl, e58, hp, e', h86, hnq, g8]
      simp only [F1, SF0, SP0, seval, -Int.reduceNatCast', fn105_res, fn105_keep]
      exact ⟨by rw [ht]; simp [e], es, hm, rfl⟩
  have k2' : (k == 2) = false := by simpa using k2
  by_cases k4 : k = 4
  · obtain ⟨a', b', rfl, rfl, h1, h2, i1, i2⟩ := alt k4
    subst k4
    have ht := tk_alt (t := t) (l := l) (n := n) (i := i) (j := j) (by rw [hx]) (a := a') (b := b') (by rw [hx]) (by rw [hx]) h1 h2
    simp only [fn105_body, c105, D0, SP0, seval, -Int.reduceNatCast', h86, hnq, g8]
    refine i1.fr hb hm ?_ ?_ ?_ fun es2 hm2 => ?_
    · simp
    · exact h86 _ _ _
    · exact h86 _ _ _
    by_cases c1 : tk t l a' i j = true
    · simp only [D0, SP0, seval, -Int.reduceNatCast', c1]
      simp only [F1, SF0, SP0, seval, -Int.reduceNatCast', fn105_res, fn105_keep]
      exact ⟨by rw [ht, c1]; rfl, es2, hm2, rfl⟩
    · have c1' : tk t l a' i j = false := by simpa using c1
      simp only [D0, SP0, seval, -Int.reduceNatCast', c1', h86, hnq, g8]
      refine i2.fr hb hm2 ?_ ?_ ?_ fun es3 hm3 => ?_
      · simp
      · exact h86 _ _ _
      · exact h86 _ _ _
      simp only [D0, SP0, seval, -Int.reduceNatCast']
      simp only [F1, SF0, SP0, seval, -Int.reduceNatCast', fn105_res, fn105_keep]
      exact ⟨by rw [ht, c1', Bool.false_or], es3, hm3, rfl⟩
  have k4' : (k == 4) = false := by simpa using k4
  by_cases k3 : k = 3
  · obtain ⟨a', b', rfl, rfl, h1, h2, i1, i2⟩ := cat k3
    subst k3
    have ht := tk_cat (t := t) (l := l) (n := n) (i := i) (j := j) (by rw [hx]) (a := a') (b := b') (by rw [hx]) (by rw [hx]) h1 h2
    simp only [fn105_body, c105, D0, SP0, seval, -Int.reduceNatCast', h86, hnq, g8]
    refine An.fr (run126 (by omega) i1 i2 (by omega)) hb hm ?_ ?_ ?_ fun es2 hm2 => ?_
    · simp
    · exact h86 _ _ _
    · exact h86 _ _ _
    simp only [D0, SP0, seval, -Int.reduceNatCast']
    simp only [F1, SF0, SP0, seval, -Int.reduceNatCast', fn105_res, fn105_keep]
    exact ⟨by rw [ht]; rfl, es2, hm2, rfl⟩
  have k3' : (k == 3) = false := by simpa using k3
  by_cases k5 : k = 5
  · obtain ⟨a', rfl, h1, i1, i2⟩ := star k5
    subst k5
    have ht := tk_star (t := t) (l := l) (n := n) (i := i) (j := j) (by rw [hx]) (a := a') (by rw [hx]) h1
    by_cases e : i = j
    · have e' : ((i : Int) == (j : Int)) = true := by simp [e]
      simp only [fn105_body, c105, D0, SP0, seval, -Int.reduceNatCast', e', h86, hnq, g8]
      simp only [F1, SF0, SP0, seval, -Int.reduceNatCast', fn105_res, fn105_keep]
      exact ⟨by rw [ht]; simp [e], es, hm, rfl⟩
    · have e' : ((i : Int) == (j : Int)) = false := by simp only [beq_eq_false_iff_ne]; omega
      have hp := wrapp (j := i) (by omega)
      simp only [fn105_body, c105, D0, SP0, seval, -Int.reduceNatCast', e', h86, hnq, g8, hp]
      refine An.fr (run126 (by omega) i1 i2 (by omega)) hb hm ?_ ?_ ?_ fun es2 hm2 => ?_
      · simp
      · exact h86 _ _ _
      · exact h86 _ _ _
      simp only [D0, SP0, seval, -Int.reduceNatCast']
      simp only [F1, SF0, SP0, seval, -Int.reduceNatCast', fn105_res, fn105_keep]
      refine ⟨?_, es2, hm2, rfl⟩
      rw [ht, decide_eq_false e, Bool.false_or]
      unfold spl
      rw [show j + 1 - (i + 1) = j - i by omega]
  have k5' : (k == 5) = false := by simpa using k5
  have ht := tk_other (t := t) (l := l) (n := n) (i := i) (j := j) (by rw [hx]; exact k1) (by rw [hx]; exact k2) (by rw [hx]; exact k3) (by rw [hx]; exact k4) (by rw [hx]; exact k5)
  simp only [fn105_body, c105, D0, SP0, seval, -Int.reduceNatCast', k1', k2', k3', k4', k5', h86, hnq, g8]
  simp only [F1, SF0, SP0, seval, -Int.reduceNatCast', fn105_res, fn105_keep]
  exact ⟨by rw [ht], es, hm, rfl⟩
end Go.Proofs.Abs

set_option maxRecDepth 100000
set_option maxHeartbeats 4000000
namespace Go.Proofs.Abs
open Go
theorem run72 {t : List Nd} {l : List Int} {n i j : Nat} {k a b : Int} {c : List (Int × Int)} {z : ByteArray} (hn : n < t.length) (hx : t.getD n default = ⟨k, a, b, c, z⟩)
    (asks : ∀ (H0 : Heap), Bs t l H0 → ∀ es, Memo t l es → ∀ q : Id, q ≠ [] → cwp w0 88 q [.ref [8] 1 0 0, .agg [AV.int .i64 (Nd.kind ⟨k, a, b, c, z⟩), AV.int .i64 (Nd.a ⟨k, a, b, c, z⟩), AV.int .i64 (Nd.b ⟨k, a, b, c, z⟩), (AV.list 2 (List.map (fun x => [AV.int .i64 x.1, AV.int .i64 x.2]) (Nd.set ⟨k, a, b, c, z⟩))), AV.str (Nd.name ⟨k, a, b, c, z⟩)], .int .i64 n, .int .i64 i, .int .i64 j] (hset H0 [6] (.map es)) (Ans t l H0 (tk t l n i j))) : Tk t l n i j := by
  intro H0 hb es hm q hq
  refine run_fn (fn := fn72) rfl rfl ?_
  have h86 := fget_one hq
  have hnq : ∀ k m, ¬ (q ++ [k] = [m]) := fun k m e => by
    have := congrArg List.length e
    simp at this
    exact hq this
  have g8 := fun es => hb.g8 es
  have g6 := fun es => hb.g6 es
  have hg := map_get (f := eNd) hn default
  rw [hx] at hg
  rcases memo_find hm n i j with hf | hf
  · simp only [K3] at hf
    simp only [fn72_body, c72, D0, SP0, seval, -Int.reduceNatCast', h86, hnq, g8, g6, hf, lrc_x, apx, apart, apart1, needs, hg, eNd, eSet, Int.natCast_nonneg, Int.toNat_natCast]
    refine An.fr asks hb hm ?_ ?_ ?_ fun es2 hm2 => ?_
    · simp
    · exact h86 _ _ _
    · exact h86 _ _ _
    obtain ⟨pre, post, m1, m2, m3⟩ := memo_put hm2 n i j
    have mn := memo_new m1 n i j
    simp only [K3, b01] at m2 m3 mn
    by_cases hB : tk t l n i j = true
    · rw [hB] at mn
      simp only [if_true] at mn
      simp only [D0, SP0, seval, -Int.reduceNatCast', hB, h86, hnq, g8, g6, m2, m3, hset_hset, lrc_x, apx, apart, apart1, needs]
      simp only [F1, SF0, SP0, seval, -Int.reduceNatCast', fn72_res, fn72_keep]
      exact ⟨by first | rfl | rw [hB], _, mn, rfl⟩
    · have hB' : tk t l n i j = false := by simpa using hB
      rw [hB'] at mn
      simp only [Bool.false_eq_true, if_false] at mn
      simp only [D0, SP0, seval, -Int.reduceNatCast', hB', h86, hnq, g8, g6, m2, m3, hset_hset, lrc_x, apx, apart, apart1, needs]
      simp only [F1, SF0, SP0, seval, -Int.reduceNatCast', fn72_res, fn72_keep]
      exact ⟨by first | rfl | rw [hB'], _, mn, rfl⟩
  · simp only [K3, b01] at hf
    by_cases hB : tk t l n i j = true
    · simp only [hB, if_true] at hf
      simp only [fn72_body, c72, D0, SP0, seval, -Int.reduceNatCast', h86, hnq, g8, g6, hf, lrc_x, apx, apart, apart1, needs]
      simp only [F1, SF0, SP0, seval, -Int.reduceNatCast', fn72_res, fn72_keep]
      exact ⟨by first | rfl | rw [hB], es, hm, rfl⟩
    · have hB' : tk t l n i j = false := by simpa using hB
      simp only [hB', Bool.false_eq_true, if_false] at hf
      simp only [fn72_body, c72, D0, SP0, seval, -Int.reduceNatCast', h86, hnq, g8, g6, hf, lrc_x, apx, apart, apart1, needs]
      simp only [F1, SF0, SP0, seval, -Int.reduceNatCast', fn72_res, fn72_keep]
      exact ⟨by first | rfl | rw [hB'], es, hm, rfl⟩
theorem tk_all {t : List Nd} {l : List Int} {lst : List Nat} (hw : WfT t) (hb : begs t = some lst) (hl : l.length ≤ 1000000) : ∀ n, n < t.length → ∀ d i j, j - i ≤ d → i ≤ j → j ≤ l.length → Tk t l n i j := by
  intro n
  induction n using Nat.strongRecOn with
  | ind n ihn =>
    intro hn d
    induction d using Nat.strongRecOn with
    | ind d ihd =>
      intro i j hd hij hj
      have hmem := getD_mem hn
      have hc := (hw.all _ hmem).set.len
      obtain ⟨hle, hcut⟩ := begs_cut hb n hn
      have hne : t[n] = t.getD n default := by
        rw [List.getD_eq_getElem?_getD, List.getElem?_eq_getElem hn]
        rfl
      rw [hne] at hcut
      generalize hx : t.getD n default = x at hc hcut
      obtain ⟨k, a, b, c, z⟩ := x
      simp only at hc
      have fork : (k = 3 ∨ k = 4) → ∃ a' b' : Nat, a = a' ∧ b = b' ∧ a' < n ∧ b' < n := fun hk => by
        cases hcut with
        | fork hf c2 hb0 c1 ha hn2 hg0 =>
          simp only at ha hb0
          have := (begs_cut hb (n - 1) (by omega)).1
          exact ⟨lst.getD (n - 1) 0 - 1, n - 1, by omega, by omega, by omega, by omega⟩
        | star hf hk5 => simp only at hk5; omega
        | leaf hf hk5 => rcases hk with rfl | rfl <;> simp [isFork] at hf
      refine run72 hn hx (run105 hx hc hij hj hl (fun hk => ?_) (fun hk => ?_) (fun hk => ?_))
      · obtain ⟨a', b', e1, e2, h1, h2⟩ := fork (.inr hk)
        exact ⟨a', b', e1, e2, h1, h2, ihn a' h1 (by omega) (j - i) i j (Nat.le_refl _) hij hj, ihn b' h2 (by omega) (j - i) i j (Nat.le_refl _) hij hj⟩
      · obtain ⟨a', b', e1, e2, h1, h2⟩ := fork (.inl hk)
        exact ⟨a', b', e1, e2, h1, h2, fun m h3 h4 => ihn a' h1 (by omega) (m - i) i m (Nat.le_refl _) h3 (by omega), fun m h3 h4 => ihn b' h2 (by omega) (j - m) m j (Nat.le_refl _) h4 hj⟩
      · cases hcut with
        | fork hf => subst hk; simp [isFork] at hf
        | leaf hf hk5 => exact absurd hk hk5
        | star hf hk5 c1 ha hb0 hn2 hg0 =>
          simp only at ha
          refine ⟨n - 1, by omega, by omega, fun m h3 h4 => ihn (n - 1) (by omega) (by omega) (m - i) i m (Nat.le_refl _) (by omega) (by omega), fun m h3 h4 => ihd (j - m) (by omega) m j (Nat.le_refl _) h4 hj⟩
theorem run31 (t : List Nd) (l : List Int) (hw : WfT t) (hl : l.length ≤ 1000000) : cwp w0 24 [] [(AV.list 5 (List.map eNd t)), (AV.list 1 (List.map (fun x => [AV.int .i64 x]) (l)))] [] (fun r H => r = .bool (takesT t l) ∧ H = []) := by
  refine run_fn (fn := fn31) rfl rfl ?_
  by_cases g : goodT t = true
  · obtain ⟨h1, h2, lst, hb, h3⟩ := goodT_iff.1 g
    have hm := wrapm (j := t.length) (by omega) (by omega)
    have hr : takesT t l = tk t l (t.length - 1) 0 l.length := by simp [takesT, g]
    simp only [fn31_body, c31, D0, SP0, seval, -Int.reduceNatCast', @use_all w0 55 k29.ora rfl, e29, hw, g, hm]
    have hbs : Bs t l [[([8], .box [(AV.list 5 (List.map eNd t)), (AV.list 1 (List.map (fun x => [AV.int .i64 x]) (l))), .map [6]]), ([6], .map [])]] := ⟨rfl, rfl⟩
    have run := tk_all hw hb hl (t.length - 1) (by omega) l.length 0 l.length (by omega) (by omega) (Nat.le_refl _) _ hbs [] (fun e he => by simp at he) [16] (by simp)
    refine cg_use run ?_
    rintro v H' ⟨rfl, es, _, rfl⟩
    simp only [D0, SP0, seval, -Int.reduceNatCast']
    simp only [F1, SF0, SP0, seval, -Int.reduceNatCast', fn31_res, fn31_keep, hr]
  · have g' : goodT t = false := by simpa using g
    have hr : takesT t l = false := by simp [takesT, g']
    simp only [fn31_body, c31, D0, SP0, seval, -Int.reduceNatCast', @use_all w0 55 k29.ora rfl, e29, hw, g']
    simp only [F1, SF0, SP0, seval, -Int.reduceNatCast', fn31_res, fn31_keep, hr]
noncomputable def k31 : Kon (List Nd × List Int) := ⟨fun x => WfT x.1 ∧ x.2.length ≤ 1000000, fun x => [(AV.list 5 (List.map eNd x.1)), (AV.list 1 (List.map (fun x => [AV.int .i64 x]) (x.2)))], fun x => .bool (takesT x.1 x.2)⟩
theorem e31 (t : List Nd) (l : List Int) (hd : WfT t ∧ l.length ≤ 1000000) (q0 : Id) (H0 : Heap) : k31.ora q0 ([(AV.list 5 (List.map eNd t)), (AV.list 1 (List.map (fun x => [AV.int .i64 x]) (l)))]) H0 = some (.bool (takesT t l), H0) := k31.eq (by dsimp only [k31]; rintro ⟨a, m⟩ ⟨b, n⟩ h; simp only [List.cons.injEq, and_true] at h; rw [eTree_inj (a := a) (b := b) h.1, eRow_inj (a := m) (b := n) h.2]) (t, l) hd q0 H0
theorem ook31 : OraOK Tryz.prog (24 % 100000) k31.ora := k31.ok orders w0_ok (fun x hd => by simp [k31, PU]) (fun x hd => by simp [k31, PU]) (fun x hd => run31 x.1 x.2 hd.1 hd.2)

noncomputable def w1 : FT := upd (w0) 24 k31.ora
theorem w1_ok : FTOK Tryz.prog w1 := upd_ok2 (f := 24) (w0_ok) ook31

end Go.Proofs.Abs

set_option maxRecDepth 100000
set_option maxHeartbeats 1000000
namespace Go.Proofs.Abs
open Go
theorem tk_map {t t' : List Nd} {l l' : List Int} {lst : List Nat} {s r : Nat} (hb : begs t = some lst) (hN : ∀ n, n < t.length → t'.getD (n + s) default = movN (t.getD n default) s) (hL : ∀ i, i < l.length → l'.getD (i + r) 0 = l.getD i 0) :
    ∀ n, n < t.length → ∀ d i j, j - i ≤ d → i ≤ j → j ≤ l.length → tk t' l' (n + s) (i + r) (j + r) = tk t l n i j := by
  intro n
  induction n using Nat.strongRecOn with
  | ind n ihn =>
    intro hn d
    induction d using Nat.strongRecOn with
    | ind d ihd =>
      intro i j hd hij hj
      obtain ⟨hle, hcut⟩ := begs_cut hb n hn
      have hne : t[n] = t.getD n default := by
        rw [List.getD_eq_getElem?_getD, List.getElem?_eq_getElem hn]
        rfl
      rw [hne] at hcut
      have hx' := hN n hn
      generalize hx : t.getD n default = x at hcut hx'
      obtain ⟨k, a, b, c, z⟩ := x
      cases hcut with
      | fork hf c2 hb0 c1 ha hn2 hg0 =>
        simp only at ha hb0
        have := (begs_cut hb (n - 1) (by omega)).1
        obtain ⟨a', rfl⟩ : ∃ a' : Nat, a = a' := ⟨lst.getD (n - 1) 0 - 1, by omega⟩
        obtain ⟨b', rfl⟩ : ∃ b' : Nat, b = b' := ⟨n - 1, by omega⟩
        have hm : movN ⟨k, (a' : Int), (b' : Int), c, z⟩ (s : Int) = ⟨k, ((a' + s : Nat) : Int), ((b' + s : Nat) : Int), c, z⟩ := by
          unfold movN
          rw [if_pos hf]
          simp
        rw [hm] at hx'
        have h1 : a' < n := by omega
        have h2 : b' < n := by omega
        have hk : k = 3 ∨ k = 4 := by simpa [isFork] using hf
        rcases hk with rfl | rfl
        · rw [tk_cat (t := t') (by rw [hx']) (a := a' + s) (b := b' + s) (by rw [hx']) (by rw [hx']) (by omega) (by omega), tk_cat (t := t) (by rw [hx]) (a := a') (b := b') (by rw [hx]) (by rw [hx]) h1 h2]
          rw [show j + r + 1 - (i + r) = j + 1 - i by omega]
          refine any_congr fun d' hd' => ?_
          have e1 := ihn a' h1 (by omega) (i + d' - i) i (i + d') (Nat.le_refl _) (by omega) (by omega)
          have e2 := ihn b' h2 (by omega) (j - (i + d')) (i + d') j (Nat.le_refl _) (by omega) hj
          rw [show i + d' + r = i + r + d' by omega] at e1 e2
          rw [e1, e2]
        · rw [tk_alt (t := t') (by rw [hx']) (a := a' + s) (b := b' + s) (by rw [hx']) (by rw [hx']) (by omega) (by omega), tk_alt (t := t) (by rw [hx]) (a := a') (b := b') (by rw [hx]) (by rw [hx]) h1 h2]
          rw [ihn a' h1 (by omega) (j - i) i j (Nat.le_refl _) hij hj, ihn b' h2 (by omega) (j - i) i j (Nat.le_refl _) hij hj]
      | star hf hk c1 ha hb0 hn2 hg0 =>
        simp only at ha hb0 hk
        subst hk
        obtain ⟨a', rfl⟩ : ∃ a' : Nat, a = a' := ⟨n - 1, by omega⟩
        have hm : movN ⟨5, (a' : Int), b, c, z⟩ (s : Int) = ⟨5, ((a' + s : Nat) : Int), b, c, z⟩ := by
          unfold movN
          rw [if_neg (by simp [hf]), if_pos rfl]
          simp
        rw [hm] at hx'
        have h1 : a' < n := by omega
        rw [tk_star (t := t') (by rw [hx']) (a := a' + s) (by rw [hx']) (by omega), tk_star (t := t) (by rw [hx]) (a := a') (by rw [hx]) h1]
        rw [show j + r - (i + r) = j - i by omega]
        have e0 : decide (i + r = j + r) = decide (i = j) := by
          by_cases h : i = j
          · simp [h]
          · simp [h]
        rw [e0]
        congr 1
        refine any_congr fun d' hd' => ?_
        have e1 := ihn a' h1 (by omega) (i + 1 + d' - i) i (i + 1 + d') (Nat.le_refl _) (by omega) (by omega)
        have e2 := ihd (j - (i + 1 + d')) (by omega) (i + 1 + d') j (Nat.le_refl _) (by omega) hj
        rw [show i + 1 + d' + r = i + r + 1 + d' by omega] at e1 e2
        rw [e1, e2]
      | leaf hf hk hn2 hg0 =>
        simp only at hk
        rw [movN_leaf hf hk] at hx'
        have hk3 : k ≠ 3 := by simp [isFork] at hf; exact hf.1
        have hk4 : k ≠ 4 := by simp [isFork] at hf; exact hf.2
        by_cases k1 : k = 1
        · rw [tk_empty (t := t') (by rw [hx']; exact k1), tk_empty (t := t) (by rw [hx]; exact k1)]
          by_cases h : i = j
          · simp [h]
          · simp [h]
        · by_cases k2 : k = 2
          · rw [tk_one (t := t') (by rw [hx']; exact k2), tk_one (t := t) (by rw [hx]; exact k2), hx, hx']
            by_cases h : j = i + 1
            · subst h
              rw [hL i (by omega)]
              simp; omega
            · have h2 : ¬ (j + r = i + r + 1) := by omega
              simp [h, h2]
          · rw [tk_other (t := t') (by rw [hx']; exact k1) (by rw [hx']; exact k2) (by rw [hx']; exact hk3) (by rw [hx']; exact hk4) (by rw [hx']; exact hk), tk_other (t := t) (by rw [hx]; exact k1) (by rw [hx]; exact k2) (by rw [hx]; exact hk3) (by rw [hx]; exact hk4) (by rw [hx]; exact hk)]
theorem tk_sub {t : List Nd} {l : List Int} {lst : List Nat} (hb : begs t = some lst) {n : Nat} (hn : n < t.length) {p q : Nat} (hp : p ≤ q) (hq : q ≤ l.length) : tk t ((l.take q).drop p) n 0 (q - p) = tk t l n p q := by
  have h := tk_map (t := t) (t' := t) (l := (l.take q).drop p) (l' := l) (s := 0) (r := p) hb (fun n _ => by simp [movN_zero]) (fun i hi => by
    have hi' : i < q - p := by simp at hi; omega
    rw [List.getD_eq_getElem?_getD, List.getD_eq_getElem?_getD, List.getElem?_drop, List.getElem?_take_of_lt (by omega), Nat.add_comm]) n hn (q - p) 0 (q - p) (by omega) (by omega) (by simp; omega)
  simp only [Nat.add_zero, Nat.zero_add, Nat.sub_add_cancel hp] at h
  exact h.symm
theorem takes_take {t : List Nd} {l : List Int} (g : goodT t = true) {q : Nat} (hq : q ≤ l.length) : takesT t (l.take q) = tk t l (t.length - 1) 0 q := by
  obtain ⟨h1, h2, lst, hb, h3⟩ := goodT_iff.1 g
  have := tk_sub (l := l) hb (n := t.length - 1) (by omega) (Nat.zero_le q) hq
  simp only [List.drop_zero, Nat.sub_zero] at this
  simp only [takesT, g, Bool.true_and]
  rw [← this, List.length_take, Nat.min_eq_left hq]
theorem takes_drop {t : List Nd} {l : List Int} (g : goodT t = true) {p : Nat} (hp : p ≤ l.length) : takesT t (l.drop p) = tk t l (t.length - 1) p l.length := by
  obtain ⟨h1, h2, lst, hb, h3⟩ := goodT_iff.1 g
  have := tk_sub (l := l) hb (n := t.length - 1) (by omega) hp (Nat.le_refl _)
  simp only [List.take_length] at this
  simp only [takesT, g, Bool.true_and]
  rw [← this, List.length_drop]
theorem takes_all {t : List Nd} {l : List Int} (g : goodT t = true) : takesT t l = tk t l (t.length - 1) 0 l.length := by simp [takesT, g]
theorem join_left {k : Int} {a b : List Nd} {l : List Int} (ga : goodT a = true) {i j : Nat} (hij : i ≤ j) (hj : j ≤ l.length) : tk (joinT k a b) l (a.length - 1) i j = tk a l (a.length - 1) i j := by
  obtain ⟨h1, h2, lst, hb, h3⟩ := goodT_iff.1 ga
  have := tk_map (t := a) (t' := joinT k a b) (l := l) (l' := l) (s := 0) (r := 0) hb (fun n hn => by
    have e : (joinT k a b).getD (n + 0) default = a.getD n default := by
      rw [List.getD_eq_getElem?_getD, List.getD_eq_getElem?_getD]
      unfold joinT
      rw [Nat.add_zero, List.append_assoc, List.getElem?_append_left hn]
    rw [e]; simp [movN_zero]) (fun i hi => by simp) (a.length - 1) (by omega) (j - i) i j (Nat.le_refl _) hij hj
  simpa using this
theorem star_left {a : List Nd} {l : List Int} (ga : goodT a = true) {i j : Nat} (hij : i ≤ j) (hj : j ≤ l.length) : tk (starT a) l (a.length - 1) i j = tk a l (a.length - 1) i j := by
  obtain ⟨h1, h2, lst, hb, h3⟩ := goodT_iff.1 ga
  have := tk_map (t := a) (t' := starT a) (l := l) (l' := l) (s := 0) (r := 0) hb (fun n hn => by
    have e : (starT a).getD (n + 0) default = a.getD n default := by
      rw [List.getD_eq_getElem?_getD, List.getD_eq_getElem?_getD]
      unfold starT
      rw [Nat.add_zero, List.getElem?_append_left hn]
    rw [e]; simp [movN_zero]) (fun i hi => by simp) (a.length - 1) (by omega) (j - i) i j (Nat.le_refl _) hij hj
  simpa using this
theorem join_right {k : Int} {a b : List Nd} {l : List Int} (gb : goodT b = true) {i j : Nat} (hij : i ≤ j) (hj : j ≤ l.length) : tk (joinT k a b) l (b.length - 1 + a.length) i j = tk b l (b.length - 1) i j := by
  obtain ⟨h1, h2, lst, hb, h3⟩ := goodT_iff.1 gb
  have := tk_map (t := b) (t' := joinT k a b) (l := l) (l' := l) (s := a.length) (r := 0) hb (fun n hn => by
    rw [List.getD_eq_getElem?_getD, List.getD_eq_getElem?_getD]
    unfold joinT
    rw [List.append_assoc, List.getElem?_append_right (by omega), Nat.add_sub_cancel, List.getElem?_append_left (by rw [mov_len]; exact hn)]
    unfold mov
    rw [List.getElem?_map, List.getElem?_eq_getElem hn]
    rfl) (fun i hi => by simp) (b.length - 1) (by omega) (j - i) i j (Nat.le_refl _) hij hj
  simpa using this
def catF (a b : List Nd) (l : List Int) (k : Nat) : Bool := (List.range k).any fun d => tk a l (a.length - 1) 0 d && tk b l (b.length - 1) d l.length
def starF (a : List Nd) (l : List Int) (k : Nat) : Bool := decide (l.length = 0) || (List.range k).any fun d => decide (0 < d) && (tk a l (a.length - 1) 0 d && tk (starT a) l a.length d l.length)
theorem any_succ (f : Nat → Bool) (k : Nat) : (List.range (k + 1)).any f = ((List.range k).any f || f k) := by
  rw [List.range_succ, List.any_append]
  simp
theorem catF_succ (a b : List Nd) (l : List Int) (k : Nat) : catF a b l (k + 1) = (catF a b l k || (tk a l (a.length - 1) 0 k && tk b l (b.length - 1) k l.length)) := any_succ _ _
theorem starF_succ (a : List Nd) (l : List Int) (k : Nat) : starF a l (k + 1) = (starF a l k || (decide (0 < k) && (tk a l (a.length - 1) 0 k && tk (starT a) l a.length k l.length))) := by
  unfold starF
  rw [any_succ, Bool.or_assoc]
theorem takes_cat {a b : List Nd} {l : List Int} (ga : goodT a = true) (gb : goodT b = true) (hl : a.length + b.length + 1 ≤ 40000) : takesT (joinT 3 a b) l = catF a b l (l.length + 1) := by
  have g := good_join (k := 3) (.inl rfl) ga gb hl
  have h1 : 1 ≤ a.length := (goodT_iff.1 ga).1
  have h2 : 1 ≤ b.length := (goodT_iff.1 gb).1
  rw [takes_all g, joinT_len, Nat.add_sub_cancel]
  have e : (joinT 3 a b).getD (a.length + b.length) default = ⟨3, ((a.length - 1 : Nat) : Int), ((b.length - 1 + a.length : Nat) : Int), [], ⟨#[]⟩⟩ := by
    have := last_join 3 a b
    unfold lastN at this
    rw [joinT_len, Nat.add_sub_cancel] at this
    rw [this]
    simp only [Nd.mk.injEq, and_true, true_and]
    omega
  rw [tk_cat (by rw [e]) (a := a.length - 1) (b := b.length - 1 + a.length) (by rw [e]) (by rw [e]) (by omega) (by omega)]
  unfold catF
  refine any_congr fun d hd => ?_
  rw [Nat.zero_add, join_left ga (Nat.zero_le _) (by omega), join_right gb (by omega) (Nat.le_refl _)]
theorem takes_alt {a b : List Nd} {l : List Int} (ga : goodT a = true) (gb : goodT b = true) (hl : a.length + b.length + 1 ≤ 40000) : takesT (joinT 4 a b) l = (takesT a l || takesT b l) := by
  have g := good_join (k := 4) (.inr rfl) ga gb hl
  have h1 : 1 ≤ a.length := (goodT_iff.1 ga).1
  have h2 : 1 ≤ b.length := (goodT_iff.1 gb).1
  rw [takes_all g, takes_all ga, takes_all gb, joinT_len, Nat.add_sub_cancel]
  have e : (joinT 4 a b).getD (a.length + b.length) default = ⟨4, ((a.length - 1 : Nat) : Int), ((b.length - 1 + a.length : Nat) : Int), [], ⟨#[]⟩⟩ := by
    have := last_join 4 a b
    unfold lastN at this
    rw [joinT_len, Nat.add_sub_cancel] at this
    rw [this]
    simp only [Nd.mk.injEq, and_true, true_and]
    omega
  rw [tk_alt (by rw [e]) (a := a.length - 1) (b := b.length - 1 + a.length) (by rw [e]) (by rw [e]) (by omega) (by omega), join_left ga (Nat.zero_le _) (Nat.le_refl _), join_right gb (Nat.zero_le _) (Nat.le_refl _)]
theorem takes_star {a : List Nd} {l : List Int} (ga : goodT a = true) (hl : a.length + 1 ≤ 40000) : takesT (starT a) l = starF a l (l.length + 1) := by
  have g := good_star ga hl
  have h1 : 1 ≤ a.length := (goodT_iff.1 ga).1
  rw [takes_all g, starT_len, Nat.add_sub_cancel]
  have e : (starT a).getD a.length default = ⟨5, ((a.length - 1 : Nat) : Int), 0, [], ⟨#[]⟩⟩ := by
    have := last_star a
    unfold lastN at this
    rw [starT_len, Nat.add_sub_cancel] at this
    rw [this]
    simp only [Nd.mk.injEq, and_true, true_and]
    omega
  rw [tk_star (t := starT a) (n := a.length) (by rw [e]) (a := a.length - 1) (by rw [e]) (by omega)]
  unfold starF
  have e0 : decide (0 = l.length) = decide (l.length = 0) := by rw [Bool.eq_iff_iff]; simp only [decide_eq_true_eq]; omega
  rw [e0]
  congr 1
  rw [Bool.eq_iff_iff]
  simp only [List.any_eq_true, List.mem_range, Bool.and_eq_true, decide_eq_true_eq]
  constructor
  · rintro ⟨d, hd, e1, e2⟩
    rw [star_left ga (by omega) (by omega), Nat.zero_add, Nat.add_comm] at e1
    rw [Nat.zero_add, Nat.add_comm] at e2
    exact ⟨d + 1, by omega, by omega, e1, e2⟩
  · rintro ⟨d, hd, hd0, e1, e2⟩
    obtain ⟨d, rfl⟩ : ∃ d', d = d' + 1 := ⟨d - 1, by omega⟩
    refine ⟨d, by omega, ?_, ?_⟩
    · rw [star_left ga (by omega) (by omega), Nat.zero_add, Nat.add_comm]; exact e1
    · rw [Nat.zero_add, Nat.add_comm]; exact e2
theorem takes_leaf (k : Int) (l : List Int) : takesT (leafT k) l = (decide (k = 1) && decide (l.length = 0)) := by
  have g : goodT (leafT k) = true := by
    by_cases h : k = 1 <;> simp [goodT, leafT, h, begs, begsFrom, stepB, isFork, leafN, bareN, ByteArray.size]
  rw [takes_all g]
  have hn : (leafT k).length - 1 = 0 := rfl
  rw [hn]
  have e : (leafT k).getD 0 default = ⟨if k = 1 then 1 else 0, 0, 0, [], ⟨#[]⟩⟩ := rfl
  by_cases h : k = 1
  · rw [if_pos h] at e
    rw [tk_empty (by rw [e])]
    have e0 : decide (0 = l.length) = decide (l.length = 0) := by rw [Bool.eq_iff_iff]; simp only [decide_eq_true_eq]; omega
    rw [e0, decide_eq_true h, Bool.true_and]
  · rw [if_neg h] at e
    rw [tk_other (by rw [e]; decide) (by rw [e]; decide) (by rw [e]; decide) (by rw [e]; decide) (by rw [e]; decide)]
    simp [h]
end Go.Proofs.Abs

set_option maxRecDepth 100000
set_option maxHeartbeats 4000000
namespace Go.Proofs.Abs
open Go
theorem run59 (s : List (Int × Int)) (v : Int) (hs : s.length ≤ 9223372036854775807) : cwp y1 42 [] [(AV.list 2 (List.map (fun x => [AV.int .i64 x.1, AV.int .i64 x.2]) (s))), .int .i64 v] [] (fun r H => r = .bool (hasS s v) ∧ H = []) := by
  refine run_fn (fn := fn59) rfl rfl ?_
  simp only [fn59_body, c59, D0, SP0, seval, -Int.reduceNatCast']
  refine lg_rule (fun j e H => e = [(0, (AV.list 2 (List.map (fun x => [AV.int .i64 x.1, AV.int .i64 x.2]) (s)))), (1, .int .i64 v), (4, .bool false), (5, .int .i64 j)] ∧ H = [[]] ∧ j ≤ s.length ∧ ∀ i, i < j → inR v (s.getD i (0, 0)) = false) s.length ?_ ?_
  · exact ⟨rfl, rfl, by simp, by simp⟩
  rintro j e H ⟨rfl, rfl, hj, hi⟩
  simp only [D0, SP0, seval, -Int.reduceNatCast']
  by_cases h : j < s.length
  · have h' : (j : Int) < (s.length : Int) := by omega
    have hp := wrapp (j := j) (by omega)
    have hg := map_get (f := fun x : Int × Int => [AV.int .i64 x.1, AV.int .i64 x.2]) h (0, 0)
    have step : inR v (s.getD j (0, 0)) = false → ∀ i, i < j + 1 → inR v (s.getD i (0, 0)) = false := fun h1 i h2 => by
      by_cases e : i = j
      · rw [e]; exact h1
      · exact hi i (by omega)
    have yes : inR v (s.getD j (0, 0)) = true → hasS s v = (isS v && goodS s) := fun h1 => by
      unfold hasS
      rw [any_true h h1, Bool.and_true, Bool.and_comm]
    clear hi
    generalize s.getD j (0, 0) = x at hg step yes
    obtain ⟨x, y⟩ := x
    by_cases h1 : x ≤ v
    · by_cases h2 : v ≤ y
      · have hy := yes (by simp [inR, h1, h2])
        clear yes step
        by_cases c1 : isS v = true
        · rw [c1, Bool.true_and] at hy
          simp only [D0, SP0, seval, -Int.reduceNatCast', @use_all y1 23 k66.ora rfl, e66, @use_all y1 53 k57.ora rfl, e57, hs, h', hg, h1, h2, c1, decide_true, Int.natCast_nonneg, Int.toNat_natCast]
          simp only [F1, SF0, SP0, seval, -Int.reduceNatCast', fn59_res, fn59_keep, hy]
        · have c1' : isS v = false := by simpa using c1
          rw [c1', Bool.false_and] at hy
          simp only [D0, SP0, seval, -Int.reduceNatCast', @use_all y1 23 k66.ora rfl, e66, @use_all y1 53 k57.ora rfl, e57, hs, h', hg, h1, h2, c1', decide_true, Int.natCast_nonneg, Int.toNat_natCast]
          simp only [F1, SF0, SP0, seval, -Int.reduceNatCast', fn59_res, fn59_keep, hy]
      · have st := step (by simp [inR, h2])
        clear yes step
        simp only [D0, SP0, seval, -Int.reduceNatCast', h', hg, h1, h2, hp, decide_true, decide_false, Int.natCast_nonneg, Int.toNat_natCast]
        simp only [F1, SF0, SP0, seval, -Int.reduceNatCast']
        exact ⟨h, h, st⟩
    · have st := step (by simp [inR, h1])
      clear yes step
      simp only [D0, SP0, seval, -Int.reduceNatCast', h', hg, h1, hp, decide_true, decide_false, Int.natCast_nonneg, Int.toNat_natCast]
      simp only [F1, SF0, SP0, seval, -Int.reduceNatCast']
      exact ⟨h, h, st⟩
  · have h' : ¬ (j : Int) < (s.length : Int) := by omega
    have he : hasS s v = false := by
      unfold hasS
      rw [any_false fun i h1 => hi i (by omega), Bool.and_false]
    simp only [D0, SP0, seval, -Int.reduceNatCast', h', decide_false]
    refine .inr ⟨by simp, ?_⟩
    simp only [F1, SF0, SP0, seval, -Int.reduceNatCast', fn59_res, fn59_keep, he]
noncomputable def k59 : Kon ((List (Int × Int)) × Int) := ⟨fun x => x.1.length ≤ 9223372036854775807, fun x => [(AV.list 2 (List.map (fun x => [AV.int .i64 x.1, AV.int .i64 x.2]) (x.1))), .int .i64 x.2], fun x => .bool (hasS x.1 x.2)⟩
theorem e59 (s : List (Int × Int)) (v : Int) (hd : s.length ≤ 9223372036854775807) (q0 : Id) (H0 : Heap) : k59.ora q0 ([(AV.list 2 (List.map (fun x => [AV.int .i64 x.1, AV.int .i64 x.2]) (s))), .int .i64 v]) H0 = some (.bool (hasS s v), H0) := k59.eq (by dsimp only [k59]; rintro ⟨a, m⟩ ⟨b, n⟩ h; simp only [List.cons.injEq, AV.int.injEq, and_true, true_and] at h; rw [eSet_inj (a := a) (b := b) h.1, h.2]) (s, v) hd q0 H0
theorem ook59 : OraOK Tryz.prog (42 % 100000) k59.ora := k59.ok orders y1_ok (fun x hd => by simp [k59, PU]) (fun x hd => by simp [k59, PU]) (fun x hd => run59 x.1 x.2 hd)

end Go.Proofs.Abs
