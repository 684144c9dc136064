/- A part of a proof: the text that states the row tells what is proved. No condition is laid on anything. -/
import Derived.Test.YtdmnnbmjhpoipaaGreatDoorAbsGh
import Derived.Test.YtdmnnbmjhpoipaaGreatDoorAbsGd
import Derived.Test.YtdmnnbmjhpoipaaGreatDoorAbsGj
set_option linter.all false
set_option linter.constructorNameAsVariable false
set_option linter.defProp false
set_option linter.unusedVariables false
set_option linter.unusedSimpArgs false
set_option maxRecDepth 100000
set_option maxHeartbeats 4000000
namespace Go.Proofs.Abs
open Go
def inR (v : Int) (r : Int × Int) : Bool := decide (r.1 ≤ v) && decide (v ≤ r.2)
def hasS (s : List (Int × Int)) (v : Int) : Bool := goodS s && isS v && (List.range s.length).any fun i => inR v (s.getD i (0, 0))
theorem any_false {n : Nat} {f : Nat → Bool} (h : ∀ i, i < n → f i = false) : (List.range n).any f = false := by
  rw [List.any_eq_false]
  intro i hi
  simp [h i (List.mem_range.1 hi)]
theorem any_true {n i : Nat} {f : Nat → Bool} (hi : i < n) (h : f i = true) : (List.range n).any f = true := by
  rw [List.any_eq_true]
  exact ⟨i, List.mem_range.2 hi, h⟩
theorem run58 (s : List (Int × Int)) (v : Int) (hs : s.length ≤ 9223372036854775807) : cwp v7 75 [] [(AV.list 2 (List.map (fun x => [AV.int .i64 x.1, AV.int .i64 x.2]) (s))), .int .i64 v] [] (fun r H => r = .bool (hasS s v) ∧ H = []) := by
  refine run_fn (fn := fn58) rfl rfl ?_
  by_cases g : goodS s = true
  case neg =>
    have g' : goodS s = false := by simpa using g
    have hr : hasS s v = false := by simp [hasS, g']
    simp only [fn58_body, c58, D0, SP0, seval, -Int.reduceNatCast', @use_all v7 82 k56.ora rfl, e56, @use_all v7 26 k97.ora rfl, e97, hs, g']
    simp only [F1, SF0, SP0, seval, -Int.reduceNatCast', fn58_res, fn58_keep, hr]
  by_cases i : isS v = true
  case neg =>
    have i' : isS v = false := by simpa using i
    have hr : hasS s v = false := by simp [hasS, i']
    simp only [fn58_body, c58, D0, SP0, seval, -Int.reduceNatCast', @use_all v7 82 k56.ora rfl, e56, @use_all v7 26 k97.ora rfl, e97, hs, g, i']
    simp only [F1, SF0, SP0, seval, -Int.reduceNatCast', fn58_res, fn58_keep, hr]
  have hr : hasS s v = (List.range s.length).any fun i => inR v (s.getD i (0, 0)) := by simp [hasS, g, i]
  simp only [fn58_body, c58, D0, SP0, seval, -Int.reduceNatCast', @use_all v7 82 k56.ora rfl, e56, @use_all v7 26 k97.ora rfl, e97, hs, g, i]
  refine cg_code (fn := fn98) rfl rfl ?_
  simp only [fn98_body, c98, D0, SP0, seval, -Int.reduceNatCast']
  refine cg_code (fn := fn123) rfl rfl ?_
  simp only [fn123_body, c123, D0, SP0, seval, -Int.reduceNatCast']
  refine lg_rule (fun j e H => e = [(0, (AV.list 2 (List.map (fun x => [AV.int .i64 x.1, AV.int .i64 x.2]) (s)))), (1, .func 91 [.ref [0] 1 0 0]), (4, .int .i64 0), (7, .int .i64 s.length), (8, .int .i64 j)] ∧ H = [[], [], [([0], .box [.int .i64 v])]] ∧ j ≤ s.length ∧ ∀ i, i < j → inR v (s.getD i (0, 0)) = false) s.length ?_ ?_
  · exact ⟨rfl, rfl, by simp, by simp⟩
  rintro j e H ⟨rfl, rfl, hj, hi⟩
  simp only [D0, SP0, seval, -Int.reduceNatCast']
  by_cases h : j < s.length
  · have h' : (j : Int) < (s.length : Int) := by omega
    have hp := wrapp (j := j) (by omega)
    have hg := map_get (f := fun x : Int × Int => [AV.int .i64 x.1, AV.int .i64 x.2]) h (0, 0)
    have hjz : (j : Int) ≥ 0 := by omega
    have step : inR v (s.getD j (0, 0)) = false → ∀ i, i < j + 1 → inR v (s.getD i (0, 0)) = false := fun h1 i h2 => by
      by_cases e : i = j
      · rw [e]; exact h1
      · exact hi i (by omega)
    have yes : inR v (s.getD j (0, 0)) = true → hasS s v = true := fun h1 => by rw [hr]; exact any_true h h1
    clear hi
    generalize s.getD j (0, 0) = x at hg step yes
    obtain ⟨x, y⟩ := x
    by_cases h1 : x ≤ v
    · by_cases h2 : v ≤ y
      · have hy := yes (by simp [inR, h1, h2])
        clear yes step
        simp only [D0, SP0, seval, -Int.reduceNatCast', h', hg, rf_func, Nat.reduceLT, decide_true, Int.natCast_nonneg, Int.toNat_natCast]
        refine cg_code (fn := fn99) rfl rfl ?_
        simp only [fn99_body, c99, D0, SP0, seval, -Int.reduceNatCast', h1, h2, decide_true, decide_false]
        simp only [F1, SF0, SP0, seval, -Int.reduceNatCast', fn99_res, fn99_keep]
        simp only [D0, SP0, seval, -Int.reduceNatCast', hp]
        simp only [F1, SF0, SP0, seval, -Int.reduceNatCast', fn123_res, fn123_keep]
        simp only [D0, SP0, seval, -Int.reduceNatCast', hjz, decide_true]
        simp only [F1, SF0, SP0, seval, -Int.reduceNatCast', fn98_res, fn98_keep]
        try simp only [D0, SP0, seval, -Int.reduceNatCast']
        simp only [F1, SF0, SP0, seval, -Int.reduceNatCast', fn58_res, fn58_keep, hy]
      · have st := step (by simp [inR, h2])
        clear yes step
        simp only [D0, SP0, seval, -Int.reduceNatCast', h', hg, rf_func, Nat.reduceLT, decide_true, Int.natCast_nonneg, Int.toNat_natCast]
        refine cg_code (fn := fn99) rfl rfl ?_
        simp only [fn99_body, c99, D0, SP0, seval, -Int.reduceNatCast', h1, h2, decide_true, decide_false]
        simp only [F1, SF0, SP0, seval, -Int.reduceNatCast', fn99_res, fn99_keep]
        simp only [D0, SP0, seval, -Int.reduceNatCast', hp]
        simp only [F1, SF0, SP0, seval, -Int.reduceNatCast']
        exact ⟨h, h, st⟩
    · have st := step (by simp [inR, h1])
      clear yes step
      simp only [D0, SP0, seval, -Int.reduceNatCast', h', hg, rf_func, Nat.reduceLT, decide_true, Int.natCast_nonneg, Int.toNat_natCast]
      refine cg_code (fn := fn99) rfl rfl ?_
      simp only [fn99_body, c99, D0, SP0, seval, -Int.reduceNatCast', h1, decide_true, decide_false]
      simp only [F1, SF0, SP0, seval, -Int.reduceNatCast', fn99_res, fn99_keep]
      simp only [D0, SP0, seval, -Int.reduceNatCast', hp]
      simp only [F1, SF0, SP0, seval, -Int.reduceNatCast']
      exact ⟨h, h, st⟩
  · have h' : ¬ (j : Int) < (s.length : Int) := by omega
    have he : hasS s v = false := by rw [hr]; exact any_false fun i h1 => hi i (by omega)
    simp only [D0, SP0, seval, -Int.reduceNatCast', h', decide_false]
    refine .inr ⟨by simp, ?_⟩
    simp only [F1, SF0, SP0, seval, -Int.reduceNatCast', fn123_res, fn123_keep]
    have hneg : ¬ (-1 : Int) ≥ 0 := by decide
    simp only [D0, SP0, seval, -Int.reduceNatCast', hneg, decide_false]
    simp only [F1, SF0, SP0, seval, -Int.reduceNatCast', fn98_res, fn98_keep]
    try simp only [D0, SP0, seval, -Int.reduceNatCast']
    simp only [F1, SF0, SP0, seval, -Int.reduceNatCast', fn58_res, fn58_keep, he]
noncomputable def k58 : Kon ((List (Int × Int)) × Int) := ⟨fun x => x.1.length ≤ 9223372036854775807, fun x => [(AV.list 2 (List.map (fun x => [AV.int .i64 x.1, AV.int .i64 x.2]) (x.1))), .int .i64 x.2], fun x => .bool (hasS x.1 x.2)⟩
theorem e58 (s : List (Int × Int)) (v : Int) (hd : s.length ≤ 9223372036854775807) (q0 : Id) (H0 : Heap) : k58.ora q0 ([(AV.list 2 (List.map (fun x => [AV.int .i64 x.1, AV.int .i64 x.2]) (s))), .int .i64 v]) H0 = some (.bool (hasS s v), H0) := k58.eq (by dsimp only [k58]; rintro ⟨a, m⟩ ⟨b, n⟩ h; simp only [List.cons.injEq, AV.int.injEq, and_true, true_and] at h; rw [eSet_inj (a := a) (b := b) h.1, h.2]) (s, v) hd q0 H0
theorem ook58 : OraOK Tryz.prog (75 % 100000) k58.ora := k58.ok orders v7_ok (fun x hd => by simp [k58, PU]) (fun x hd => by simp [k58, PU]) (fun x hd => run58 x.1 x.2 hd)

end Go.Proofs.Abs

set_option maxRecDepth 100000
namespace Go.Proofs.Abs
open Go
def tk (t : List Nd) (l : List Int) (n i j : Nat) : Bool :=
  let x := t.getD n default
  if x.kind = 1 then decide (i = j)
  else if x.kind = 2 then decide (j = i + 1) && hasS x.set (l.getD i 0)
  else if x.kind = 4 then (if h : x.a.toNat < n then tk t l x.a.toNat i j else false) || (if h : x.b.toNat < n then tk t l x.b.toNat i j else false)
  else if x.kind = 3 then (List.range (j + 1 - i)).any fun d => (if h : x.a.toNat < n then tk t l x.a.toNat i (i + d) else false) && (if h : x.b.toNat < n then tk t l x.b.toNat (i + d) j else false)
  else if x.kind = 5 then decide (i = j) || (List.range (j - i)).any fun d => (if h : x.a.toNat < n then tk t l x.a.toNat i (i + 1 + d) else false) && (if h : i + 1 + d ≤ j then tk t l n (i + 1 + d) j else false)
  else false
termination_by (n, j - i)
decreasing_by
  all_goals first | exact Prod.Lex.left _ _ (by assumption) | exact Prod.Lex.right _ (by omega)
def takesT (t : List Nd) (l : List Int) : Bool := goodT t && tk t l (t.length - 1) 0 l.length
section
variable {t : List Nd} {l : List Int} {n i j : Nat}
theorem tk_empty (h : (t.getD n default).kind = 1) : tk t l n i j = decide (i = j) := by
  rw [tk]; generalize t.getD n default = x at *; simp [h]
theorem tk_one (h : (t.getD n default).kind = 2) : tk t l n i j = (decide (j = i + 1) && hasS (t.getD n default).set (l.getD i 0)) := by
  rw [tk]; generalize t.getD n default = x at *; simp [h]
theorem tk_alt (h : (t.getD n default).kind = 4) {a b : Nat} (ha : (t.getD n default).a = a) (hb : (t.getD n default).b = b) (h1 : a < n) (h2 : b < n) : tk t l n i j = (tk t l a i j || tk t l b i j) := by
  rw [tk]; generalize t.getD n default = x at *; simp [h, ha, hb, h1, h2]
theorem tk_cat (h : (t.getD n default).kind = 3) {a b : Nat} (ha : (t.getD n default).a = a) (hb : (t.getD n default).b = b) (h1 : a < n) (h2 : b < n) : tk t l n i j = (List.range (j + 1 - i)).any fun d => tk t l a i (i + d) && tk t l b (i + d) j := by
  rw [tk]; generalize t.getD n default = x at *; simp [h, ha, hb, h1, h2]
theorem any_congr {m : Nat} {f g : Nat → Bool} (h : ∀ d, d < m → f d = g d) : (List.range m).any f = (List.range m).any g := by
  rw [Bool.eq_iff_iff]
  simp only [List.any_eq_true, List.mem_range]
  constructor
  · rintro ⟨d, hd, e⟩; exact ⟨d, hd, by rw [← h d hd]; exact e⟩
  · rintro ⟨d, hd, e⟩; exact ⟨d, hd, by rw [h d hd]; exact e⟩
theorem tk_star (h : (t.getD n default).kind = 5) {a : Nat} (ha : (t.getD n default).a = a) (h1 : a < n) : tk t l n i j = (decide (i = j) || (List.range (j - i)).any fun d => tk t l a i (i + 1 + d) && tk t l n (i + 1 + d) j) := by
  rw [tk]
  generalize t.getD n default = x at *
  simp only [h, ha, Int.toNat_natCast, h1, dite_true]
  rw [if_neg (by decide), if_neg (by decide), if_neg (by decide), if_neg (by decide), if_true]
  congr 1
  refine any_congr fun d hd => ?_
  have : i + 1 + d ≤ j := by omega
  simp [this]
theorem tk_other (h1 : (t.getD n default).kind ≠ 1) (h2 : (t.getD n default).kind ≠ 2) (h3 : (t.getD n default).kind ≠ 3) (h4 : (t.getD n default).kind ≠ 4) (h5 : (t.getD n default).kind ≠ 5) : tk t l n i j = false := by
  rw [tk]; generalize t.getD n default = x at *; simp [h1, h2, h3, h4, h5]
end
def K3 (n i j : Nat) : AV := .agg [.int .i64 n, .int .i64 i, .int .i64 j]
def b01 (b : Bool) : AV := .int .i64 (if b then 1 else 0)
def Memo (t : List Nd) (l : List Int) (es : List (AV × AV)) : Prop := ∀ e ∈ es, ∃ n i j, e = (K3 n i j, b01 (tk t l n i j))
theorem keyEq_K3 (n i j n' i' j' : Nat) : keyEq 3 [0, 0, 0] (K3 n i j) (K3 n' i' j') = some (decide (n = n' ∧ i = i' ∧ j = j')) := by
  unfold keyEq K3
  simp only [acells, if_true]
  by_cases h1 : n = n'
  · subst h1
    by_cases h2 : i = i'
    · subst h2
      by_cases h3 : j = j'
      · subst h3; simp
      · have : ((j : Int) == (j' : Int)) = false := by
          simp only [beq_eq_false_iff_ne]; omega
        simp [this, h3]
    · have : ((i : Int) == (i' : Int)) = false := by
          simp only [beq_eq_false_iff_ne]; omega
      simp [this, h2]
  · have : ((n : Int) == (n' : Int)) = false := by
          simp only [beq_eq_false_iff_ne]; omega
    simp [this, h1]
theorem memo_find {t : List Nd} {l : List Int} {es : List (AV × AV)} (h : Memo t l es) (n i j : Nat) : mfind 3 [0, 0, 0] es (K3 n i j) = some none ∨ mfind 3 [0, 0, 0] es (K3 n i j) = some (some (b01 (tk t l n i j))) := by
  induction es with
  | nil =>
    left
    unfold mfind
    rw [keyEq_K3]
  | cons e es ih =>
    obtain ⟨n', i', j', rfl⟩ := h e (by simp)
    unfold mfind
    rw [keyEq_K3]
    by_cases hk : n = n' ∧ i = i' ∧ j = j'
    · obtain ⟨rfl, rfl, rfl⟩ := hk
      right
      simp
    · simp only [hk, decide_false]
      exact ih fun e he => h e (by simp [he])
theorem memo_put {t : List Nd} {l : List Int} {es : List (AV × AV)} (h : Memo t l es) (n i j : Nat) : ∃ pre post, Memo t l (pre ++ post) ∧ (∀ v, mput 3 [0, 0, 0] es (K3 n i j) v = some (pre ++ (K3 n i j, v) :: post)) ∧
    ∀ v0 v, mput 3 [0, 0, 0] (pre ++ (K3 n i j, v0) :: post) (K3 n i j) v = some (pre ++ (K3 n i j, v) :: post) := by
  induction es with
  | nil =>
    refine ⟨[], [], by simpa using h, fun v => ?_, fun v0 v => ?_⟩
    · unfold mput
      rw [keyEq_K3]
      rfl
    · simp only [List.nil_append]
      unfold mput
      rw [keyEq_K3]
      simp
  | cons e es ih =>
    obtain ⟨n', i', j', rfl⟩ := h e (by simp)
    by_cases hk : n = n' ∧ i = i' ∧ j = j'
    · obtain ⟨rfl, rfl, rfl⟩ := hk
      refine ⟨[], es, fun e he => h e (by simp at he; simp [he]), fun v => ?_, fun v0 v => ?_⟩
      · unfold mput
        rw [keyEq_K3]
        simp
      · simp only [List.nil_append]
        unfold mput
        rw [keyEq_K3]
        simp
    · obtain ⟨pre, post, h1, h2, h3⟩ := ih fun e he => h e (by simp [he])
      refine ⟨(K3 n' i' j', b01 (tk t l n' i' j')) :: pre, post, fun e he => ?_, fun v => ?_, fun v0 v => ?_⟩
      · rw [List.cons_append, List.mem_cons] at he
        rcases he with rfl | he
        · exact ⟨_, _, _, rfl⟩
        · exact h1 e he
      · unfold mput
        rw [keyEq_K3]
        simp only [hk, decide_false, h2 v, Option.map_some, List.cons_append]
      · rw [List.cons_append]
        unfold mput
        rw [keyEq_K3]
        simp only [hk, decide_false, h3 v0 v, Option.map_some, List.cons_append]
theorem memo_new {t : List Nd} {l : List Int} {pre post : List (AV × AV)} (h : Memo t l (pre ++ post)) (n i j : Nat) : Memo t l (pre ++ (K3 n i j, b01 (tk t l n i j)) :: post) := by
  intro e he
  rw [List.mem_append, List.mem_cons] at he
  rcases he with he | rfl | he
  · exact h e (by simp [he])
  · exact ⟨_, _, _, rfl⟩
  · exact h e (by simp [he])
end Go.Proofs.Abs

set_option maxRecDepth 100000
set_option maxHeartbeats 4000000
namespace Go.Proofs.Abs
open Go
structure Bs (t : List Nd) (l : List Int) (H0 : Heap) : Prop where
  h8 : hget H0 [8] = some (.box [(AV.list 5 (List.map eNd t)), (AV.list 1 (List.map (fun x => [AV.int .i64 x]) (l))), .map [6]])
  h6 : (hget H0 [6]).isSome = true
section
variable {t : List Nd} {l : List Int} {H0 : Heap}
theorem Bs.g6 (h : Bs t l H0) (es : List (AV × AV)) : hget (hset H0 [6] (.map es)) [6] = some (.map es) := by rw [hget_hset]; simp [h.h6]
theorem Bs.g8 (h : Bs t l H0) (es : List (AV × AV)) : hget (hset H0 [6] (.map es)) [8] = some (.box [(AV.list 5 (List.map eNd t)), (AV.list 1 (List.map (fun x => [AV.int .i64 x]) (l))), .map [6]]) := by rw [hget_hset]; simp [h.h8]
theorem Bs.cons (h : Bs t l H0) {g : Fr} (h8 : fget g [8] = none) (h6 : fget g [6] = none) : Bs t l (g :: H0) := ⟨by simp [hget, h8, h.h8], by simp [hget, h6, h.h6]⟩
theorem hset_cons {g : Fr} (h6 : fget g [6] = none) (x : AObj) : hset (g :: H0) [6] x = g :: hset H0 [6] x := by simp [hset, h6]
end
noncomputable def w0 : FT := upd (v7) 75 k58.ora
theorem w0_ok : FTOK Tryz.prog w0 := upd_ok2 (f := 75) (v7_ok) ook58

def Ans (t : List Nd) (l : List Int) (H0 : Heap) (b : Bool) (v : AV) (H : Heap) : Prop := v = .bool b ∧ ∃ es, Memo t l es ∧ H = hset H0 [6] (.map es)
def Tk (t : List Nd) (l : List Int) (n i j : Nat) : Prop := ∀ (H0 : Heap), Bs t l H0 → ∀ es, Memo t l es → ∀ q : Id, q ≠ [] →
  cwp w0 37 q [.ref [8] 1 0 0, .int .i64 n, .int .i64 i, .int .i64 j] (hset H0 [6] (.map es)) (Ans t l H0 (tk t l n i j))
theorem Tk.fr {t : List Nd} {l : List Int} {n i j : Nat} (h : Tk t l n i j) {H0 : Heap} (hb : Bs t l H0) {es : List (AV × AV)} (hm : Memo t l es) {q : Id} (hq : q ≠ []) {g : Fr} (h8 : fget g [8] = none) (h6 : fget g [6] = none)
    {d : Option Nat} {r : List AIn} {k : Nat} {drop : List Nat} {ks : List Kt} {Q : Fin} {s : St}
    (hk : ∀ es, Memo t l es → rg w0 r k drop ks Q { s with env := putd s.env d (.bool (tk t l n i j)), heap := g :: hset H0 [6] (.map es), k := s.k + 1 }) :
    cg w0 37 q [.ref [8] 1 0 0, .int .i64 n, .int .i64 i, .int .i64 j] (g :: hset H0 [6] (.map es)) d r k drop ks Q s := by
  have := h (g :: H0) (hb.cons h8 h6) es hm q hq
  rw [hset_cons h6] at this
  refine cg_use this ?_
  rintro v H' ⟨rfl, es', hm', rfl⟩
  rw [hset_cons h6]
  exact hk es' hm'
theorem Tk.fr2 {t : List Nd} {l : List Int} {n i j : Nat} (h : Tk t l n i j) {H0 : Heap} (hb : Bs t l H0) {es : List (AV × AV)} (hm : Memo t l es) {q : Id} (hq : q ≠ []) {g g2 : Fr} (h8 : fget g [8] = none) (h6 : fget g [6] = none) (h8' : fget g2 [8] = none) (h6' : fget g2 [6] = none)
    {d : Option Nat} {r : List AIn} {k : Nat} {drop : List Nat} {ks : List Kt} {Q : Fin} {s : St}
    (hk : ∀ es, Memo t l es → rg w0 r k drop ks Q { s with env := putd s.env d (.bool (tk t l n i j)), heap := g :: g2 :: hset H0 [6] (.map es), k := s.k + 1 }) :
    cg w0 37 q [.ref [8] 1 0 0, .int .i64 n, .int .i64 i, .int .i64 j] (g :: g2 :: hset H0 [6] (.map es)) d r k drop ks Q s := by
  have e : ∀ x, g :: g2 :: hset H0 [6] x = g :: hset (g2 :: H0) [6] x := fun x => by rw [hset_cons h6']
  rw [e]
  refine h.fr (hb.cons h8' h6') hm hq h8 h6 fun es2 hm2 => ?_
  rw [← e]
  exact hk es2 hm2
def spl (t : List Nd) (l : List Int) (a b fr i j : Nat) : Bool := (List.range (j + 1 - fr)).any fun d => tk t l a i (fr + d) && tk t l b (fr + d) j
theorem run126 {t : List Nd} {l : List Int} {a b fr i j : Nat} (hj : j ≤ 1000000) (h1 : ∀ k, fr ≤ k → k ≤ j → Tk t l a i k) (h2 : ∀ k, fr ≤ k → k ≤ j → Tk t l b k j) (hfr : fr ≤ j + 1) :
    ∀ (H0 : Heap), Bs t l H0 → ∀ es, Memo t l es → ∀ q : Id, q ≠ [] → cwp w0 76 q [.ref [8] 1 0 0, .int .i64 a, .int .i64 b, .int .i64 fr, .int .i64 i, .int .i64 j] (hset H0 [6] (.map es)) (Ans t l H0 (spl t l a b fr i j)) := by
  intro H0 hb es hm q hq
  refine run_fn (fn := fn126) rfl rfl ?_
  simp only [fn126_body, c126, D0, SP0, seval, -Int.reduceNatCast']
  refine lg_rule (fun d e H => e = [(0, .ref [8] 1 0 0), (1, .int .i64 a), (2, .int .i64 b), (3, .int .i64 fr), (4, .int .i64 i), (5, .int .i64 j), (12, .bool false), (13, .int .i64 (fr + d : Nat))] ∧
    (∃ es, Memo t l es ∧ H = [] :: hset H0 [6] (.map es)) ∧ d ≤ j + 1 - fr ∧ ∀ d', d' < d → (tk t l a i (fr + d') && tk t l b (fr + d') j) = false) (j + 1 - fr) ?_ ?_
  · exact ⟨rfl, ⟨es, hm, rfl⟩, by omega, by simp⟩
  rintro d e H ⟨rfl, ⟨es, hm, rfl⟩, hd, hi⟩
  simp only [D0, SP0, seval, -Int.reduceNatCast']
  by_cases h : fr + d ≤ j
  · have h' : ((fr + d : Nat) : Int) ≤ (j : Int) := by omega
    have hp : IntKind.i64.wrap (((fr + d : Nat) : Int) + 1) = ((fr + (d + 1) : Nat) : Int) := wrapp (j := fr + d) (by omega)
    simp only [D0, SP0, seval, -Int.reduceNatCast', h', decide_true]
    refine (h1 (fr + d) (by omega) h).fr2 hb hm ?_ ?_ ?_ ?_ ?_ fun es2 hm2 => ?_
    · simp
    · rfl
    · rfl
    · rfl
    · rfl
    by_cases c1 : tk t l a i (fr + d) = true
    · simp only [D0, SP0, seval, -Int.reduceNatCast', c1]
      refine (h2 (fr + d) (by omega) h).fr2 hb hm2 ?_ ?_ ?_ ?_ ?_ fun es3 hm3 => ?_
      · simp
      · rfl
      · rfl
      · rfl
      · rfl
      by_cases c2 : tk t l b (fr + d) j = true
      · have hs : spl t l a b fr i j = true := any_true (i := d) (by omega) (by rw [c1, c2]; rfl)
        simp only [D0, SP0, seval, -Int.reduceNatCast', c2]
        simp only [F1, SF0, SP0, seval, -Int.reduceNatCast', fn126_res, fn126_keep, hs]
        exact ⟨rfl, es3, hm3, rfl⟩
      · have c2' : tk t l b (fr + d) j = false := by simpa using c2
        simp only [D0, SP0, seval, -Int.reduceNatCast', c2', hp]
        simp only [F1, SF0, SP0, seval, -Int.reduceNatCast']
        refine ⟨by omega, ⟨es3, hm3, rfl⟩, by omega, fun d' hd' => ?_⟩
        by_cases e : d' = d
        · subst e; rw [c2', Bool.and_false]
        · exact hi d' (by omega)
    · have c1' : tk t l a i (fr + d) = false := by simpa using c1
      simp only [D0, SP0, seval, -Int.reduceNatCast', c1', hp]
      simp only [F1, SF0, SP0, seval, -Int.reduceNatCast']
      refine ⟨by omega, ⟨es2, hm2, rfl⟩, by omega, fun d' hd' => ?_⟩
      by_cases e : d' = d
      · subst e; rw [c1', Bool.false_and]
      · exact hi d' (by omega)
  · have h' : ¬ ((fr + d : Nat) : Int) ≤ (j : Int) := by omega
    have hs : spl t l a b fr i j = false := any_false fun d' hd' => hi d' (by omega)
    simp only [D0, SP0, seval, -Int.reduceNatCast', h', decide_false]
    refine .inr ⟨by simp, ?_⟩
    simp only [F1, SF0, SP0, seval, -Int.reduceNatCast', fn126_res, fn126_keep, hs]
    exact ⟨rfl, es, hm, rfl⟩
end Go.Proofs.Abs

set_option maxRecDepth 100000
set_option maxHeartbeats 4000000
namespace Go.Proofs.Abs
open Go
theorem fget_one {q : Id} (hq : q ≠ []) (k m : Nat) (o : AObj) : fget [(q ++ [k], o)] [m] = none := by
  have : ¬ (q ++ [k] = [m]) := fun e => by
    have := congrArg List.length e
    have h2 : q.length ≠ 0 := fun e2 => hq (List.length_eq_zero_iff.1 e2)
    simp at this
    exact hq this
  simp [fget, this]
theorem An.fr {t : List Nd} {l : List Int} {f : Nat} {args : List AV} {B : Bool} (h : ∀ (H0 : Heap), Bs t l H0 → ∀ es, Memo t l es → ∀ q : Id, q ≠ [] → cwp w0 f q args (hset H0 [6] (.map es)) (Ans t l H0 B))
    {H0 : Heap} (hb : Bs t l H0) {es : List (AV × AV)} (hm : Memo t l es) {q : Id} (hq : q ≠ []) {g : Fr} (h8 : fget g [8] = none) (h6 : fget g [6] = none)
    {d : Option Nat} {r : List AIn} {k : Nat} {drop : List Nat} {ks : List Kt} {Q : Fin} {s : St}
    (hk : ∀ es, Memo t l es → rg w0 r k drop ks Q { s with env := putd s.env d (.bool B), heap := g :: hset H0 [6] (.map es), k := s.k + 1 }) :
    cg w0 f q args (g :: hset H0 [6] (.map es)) d r k drop ks Q s := by
  have := h (g :: H0) (hb.cons h8 h6) es hm q hq
  rw [hset_cons h6] at this
  refine cg_use this ?_
  rintro v H' ⟨rfl, es', hm', rfl⟩
  rw [hset_cons h6]
  exact hk es' hm'
theorem run105 {t : List Nd} {l : List Int} {n i j : Nat} {k a b : Int} {c : List (Int × Int)} {z : ByteArray} (hx : t.getD n default = ⟨k, a, b, c, z⟩) (hc : c.length ≤ 9223372036854775807) (hij : i ≤ j) (hj : j ≤ l.length) (hl : l.length ≤ 1000000)
    (alt : k = 4 → ∃ a' b' : Nat, a = a' ∧ b = b' ∧ a' < n ∧ b' < n ∧ Tk t l a' i j ∧ Tk t l b' i j)
    (cat : k = 3 → ∃ a' b' : Nat, a = a' ∧ b = b' ∧ a' < n ∧ b' < n ∧ (∀ m, i ≤ m → m ≤ j → Tk t l a' i m) ∧ (∀ m, i ≤ m → m ≤ j → Tk t l b' m j))
    (star : k = 5 → ∃ a' : Nat, a = a' ∧ a' < n ∧ (∀ m, i + 1 ≤ m → m ≤ j → Tk t l a' i m) ∧ (∀ m, i + 1 ≤ m → m ≤ j → Tk t l n m j)) :
    ∀ (H0 : Heap), Bs t l H0 → ∀ es, Memo t l es → ∀ q : Id, q ≠ [] → cwp w0 55 q [.ref [8] 1 0 0, .agg [AV.int .i64 (Nd.kind ⟨k, a, b, c, z⟩), AV.int .i64 (Nd.a ⟨k, a, b, c, z⟩), AV.int .i64 (Nd.b ⟨k, a, b, c, z⟩), (AV.list 2 (List.map (fun x => [AV.int .i64 x.1, AV.int .i64 x.2]) (Nd.set ⟨k, a, b, c, z⟩))), AV.str (Nd.name ⟨k, a, b, c, z⟩)], .int .i64 n, .int .i64 i, .int .i64 j] (hset H0 [6] (.map es)) (Ans t l H0 (tk t l n i j)) := by
  intro H0 hb es hm q hq
  refine run_fn (fn := fn105) rfl rfl ?_
  have h86 := fget_one hq
  have hnq : ∀ k m, ¬ (q ++ [k] = [m]) := fun k m e => by
    have := congrArg List.length e
    simp at this
    exact hq this
  have g8 := fun es => hb.g8 es
  by_cases k1 : k = 1
  · subst k1
    have ht := tk_empty (t := t) (l := l) (n := n) (i := i) (j := j) (by rw [hx])
    have he : ((i : Int) == (j : Int)) = decide (i = j) := by rw [Bool.eq_iff_iff]; simp; omega
    simp only [fn105_body, c105, D0, SP0, seval, -Int.reduceNatCast', he]
    simp only [F1, SF0, SP0, seval, -Int.reduceNatCast', fn105_res, fn105_keep]
    exact ⟨by rw [ht], es, hm, rfl⟩
  have k1' : (k == 1) = false := by simpa using k1
  by_cases k2 : k = 2
  · subst k2
    have ht := tk_one (t := t) (l := l) (n := n) (i := i) (j := j) (by rw [hx])
    rw [hx] at ht
    have hp := wrapp (j := i) (by omega)
    by_cases e : j = i + 1
    · have e' : ((j : Int) == ((i + 1 : Nat) : Int)) = true := by simp [e]
      have hgl := map_get (f := fun x : Int => [AV.int .i64 x]) (l := l) (j := i) (by omega) 0
      simp only [fn105_body, c105, D0, SP0, seval, -Int.reduceNatCast', @use_all w0 75 k58.ora rfl, e58, hc, hp, e', h86, hnq, g8, hgl, Int.natCast_nonneg, Int.toNat_natCast]
      simp only [F1, SF0, SP0, seval, -Int.reduceNatCast', fn105_res, fn105_keep]
      exact ⟨by rw [ht]; simp [e], es, hm, rfl⟩
    · have e' : ((j : Int) == ((i + 1 : Nat) : Int)) = false := by simp only [beq_eq_false_iff_ne]; omega
      simp only [fn105_body, c105, D0, SP0, seval, -Int.reduceNatCast', @use_all w0 75 k58.ora rfl, e58, hp, e', h86, hnq, g8]
      simp only [F1, SF0, SP0, seval, -Int.reduceNatCast', fn105_res, fn105_keep]
      exact ⟨by rw [ht]; simp [e], es, hm, rfl⟩
  have k2' : (k == 2) = false := by simpa using k2
  by_cases k4 : k = 4
  · obtain ⟨a', b', rfl, rfl, h1, h2, i1, i2⟩ := alt k4
    subst k4
    have ht := tk_alt (t := t) (l := l) (n := n) (i := i) (j := j) (by rw [hx]) (a := a') (b := b') (by rw [hx]) (by rw [hx]) h1 h2
    simp only [fn105_body, c105, D0, SP0, seval, -Int.reduceNatCast', h86, hnq, g8]
    refine i1.fr hb hm ?_ ?_ ?_ fun es2 hm2 => ?_
    · simp
    · exact h86 _ _ _
    · exact h86 _ _ _
    by_cases c1 : tk t l a' i j = true
    · simp only [D0, SP0, seval, -Int.reduceNatCast', c1]
      simp only [F1, SF0, SP0, seval, -Int.reduceNatCast', fn105_res, fn105_keep]
      exact ⟨by rw [ht, c1]; rfl, es2, hm2, rfl⟩
    · have c1' : tk t l a' i j = false := by simpa using c1
      simp only [D0, SP0, seval, -Int.reduceNatCast', c1', h86, hnq, g8]
      refine i2.fr hb hm2 ?_ ?_ ?_ fun es3 hm3 => ?_
      · simp
      · exact h86 _ _ _
      · exact h86 _ _ _
      simp only [D0, SP0, seval, -Int.reduceNatCast']
      simp only [F1, SF0, SP0, seval, -Int.reduceNatCast', fn105_res, fn105_keep]
      exact ⟨by rw [ht, c1', Bool.false_or], es3, hm3, rfl⟩
  have k4' : (k == 4) = false := by simpa using k4
  by_cases k3 : k = 3
  · obtain ⟨a', b', rfl, rfl, h1, h2, i1, i2⟩ := cat k3
    subst k3
    have ht := tk_cat (t := t) (l := l) (n := n) (i := i) (j := j) (by rw [hx]) (a := a') (b := b') (by rw [hx]) (by rw [hx]) h1 h2
    simp only [fn105_body, c105, D0, SP0, seval, -Int.reduceNatCast', h86, hnq, g8]
    refine An.fr (run126 (by omega) i1 i2 (by omega)) hb hm ?_ ?_ ?_ fun es2 hm2 => ?_
    · simp
    · exact h86 _ _ _
    · exact h86 _ _ _
    simp only [D0, SP0, seval, -Int.reduceNatCast']
    simp only [F1, SF0, SP0, seval, -Int.reduceNatCast', fn105_res, fn105_keep]
    exact ⟨by rw [ht]; rfl, es2, hm2, rfl⟩
  have k3' : (k == 3) = false := by simpa using k3
  by_cases k5 : k = 5
  · obtain ⟨a', rfl, h1, i1, i2⟩ := star k5
    subst k5
    have ht := tk_star (t := t) (l := l) (n := n) (i := i) (j := j) (by rw [hx]) (a := a') (by rw [hx]) h1
    by_cases e : i = j
    · have e' : ((i : Int) == (j : Int)) = true := by simp [e]
      simp only [fn105_body, c105, D0, SP0, seval, -Int.reduceNatCast', e', h86, hnq, g8]
      simp only [F1, SF0, SP0, seval, -Int.reduceNatCast', fn105_res, fn105_keep]
      exact ⟨by rw [ht]; simp [e], es, hm, rfl⟩
    · have e' : ((i : Int) == (j : Int)) = false := by simp only [beq_eq_false_iff_ne]; omega
      have hp := wrapp (j := i) (by omega)
      simp only [fn105_body, c105, D0, SP0, seval, -Int.reduceNatCast', e', h86, hnq, g8, hp]
      refine An.fr (run126 (by omega) i1 i2 (by omega)) hb hm ?_ ?_ ?_ fun es2 hm2 => ?_
      · simp
      · exact h86 _ _ _
      · exact h86 _ _ _
      simp only [D0, SP0, seval, -Int.reduceNatCast']
      simp only [F1, SF0, SP0, seval, -Int.reduceNatCast', fn105_res, fn105_keep]
      refine ⟨?_, es2, hm2, rfl⟩
      rw [ht, decide_eq_false e, Bool.false_or]
      unfold spl
      rw [show j + 1 - (i + 1) = j - i by omega]
  have k5' : (k == 5) = false := by simpa using k5
  have ht := tk_other (t := t) (l := l) (n := n) (i := i) (j := j) (by rw [hx]; exact k1) (by rw [hx]; exact k2) (by rw [hx]; exact k3) (by rw [hx]; exact k4) (by rw [hx]; exact k5)
  simp only [fn105_body, c105, D0, SP0, seval, -Int.reduceNatCast', k1', k2', k3', k4', k5', h86, hnq, g8]
  simp only [F1, SF0, SP0, seval, -Int.reduceNatCast', fn105_res, fn105_keep]
  exact ⟨by rw [ht], es, hm, rfl⟩
end Go.Proofs.Abs

set_option maxRecDepth 100000
set_option maxHeartbeats 4000000
namespace Go.Proofs.Abs
open Go
theorem run72 {t : List Nd} {l : List Int} {n i j : Nat} {k a b : Int} {c : List (Int × Int)} {z : ByteArray} (hn : n < t.length) (hx : t.getD n default = ⟨k, a, b, c, z⟩)
    (asks : ∀ (H0 : Heap), Bs t l H0 → ∀ es, Memo t l es → ∀ q : Id, q ≠ [] → cwp w0 55 q [.ref [8] 1 0 0, .agg [AV.int .i64 (Nd.kind ⟨k, a, b, c, z⟩), AV.int .i64 (Nd.a ⟨k, a, b, c, z⟩), AV.int .i64 (Nd.b ⟨k, a, b, c, z⟩), (AV.list 2 (List.map (fun x => [AV.int .i64 x.1, AV.int .i64 x.2]) (Nd.set ⟨k, a, b, c, z⟩))), AV.str (Nd.name ⟨k, a, b, c, z⟩)], .int .i64 n, .int .i64 i, .int .i64 j] (hset H0 [6] (.map es)) (Ans t l H0 (tk t l n i j))) : Tk t l n i j := by
  intro H0 hb es hm q hq
  refine run_fn (fn := fn72) rfl rfl ?_
  have h86 := fget_one hq
  have hnq : ∀ k m, ¬ (q ++ [k] = [m]) := fun k m e => by
    have := congrArg List.length e
    simp at this
    exact hq this
  have g8 := fun es => hb.g8 es
  have g6 := fun es => hb.g6 es
  have hg := map_get (f := eNd) hn default
  rw [hx] at hg
  rcases memo_find hm n i j with hf | hf
  · simp only [K3] at hf
    simp only [fn72_body, c72, D0, SP0, seval, -Int.reduceNatCast', h86, hnq, g8, g6, hf, lrc_x, apx, apart, apart1, needs, hg, eNd, eSet, Int.natCast_nonneg, Int.toNat_natCast]
    refine An.fr asks hb hm ?_ ?_ ?_ fun es2 hm2 => ?_
    · simp
    · exact h86 _ _ _
    · exact h86 _ _ _
    obtain ⟨pre, post, m1, m2, m3⟩ := memo_put hm2 n i j
    have mn := memo_new m1 n i j
    simp only [K3, b01] at m2 m3 mn
    by_cases hB : tk t l n i j = true
    · rw [hB] at mn
      simp only [if_true] at mn
      simp only [D0, SP0, seval, -Int.reduceNatCast', hB, h86, hnq, g8, g6, m2, m3, hset_hset, lrc_x, apx, apart, apart1, needs]
      simp only [F1, SF0, SP0, seval, -Int.reduceNatCast', fn72_res, fn72_keep]
      exact ⟨by first | rfl | rw [hB], _, mn, rfl⟩
    · have hB' : tk t l n i j = false := by simpa using hB
      rw [hB'] at mn
      simp only [Bool.false_eq_true, if_false] at mn
      simp only [D0, SP0, seval, -Int.reduceNatCast', hB', h86, hnq, g8, g6, m2, m3, hset_hset, lrc_x, apx, apart, apart1, needs]
      simp only [F1, SF0, SP0, seval, -Int.reduceNatCast', fn72_res, fn72_keep]
      exact ⟨by first | rfl | rw [hB'], _, mn, rfl⟩
  · simp only [K3, b01] at hf
    by_cases hB : tk t l n i j = true
    · simp only [hB, if_true] at hf
      simp only [fn72_body, c72, D0, SP0, seval, -Int.reduceNatCast', h86, hnq, g8, g6, hf, lrc_x, apx, apart, apart1, needs]
      simp only [F1, SF0, SP0, seval, -Int.reduceNatCast', fn72_res, fn72_keep]
      exact ⟨by first | rfl | rw [hB], es, hm, rfl⟩
    · have hB' : tk t l n i j = false := by simpa using hB
      simp only [hB', Bool.false_eq_true, if_false] at hf
      simp only [fn72_body, c72, D0, SP0, seval, -Int.reduceNatCast', h86, hnq, g8, g6, hf, lrc_x, apx, apart, apart1, needs]
      simp only [F1, SF0, SP0, seval, -Int.reduceNatCast', fn72_res, fn72_keep]
      exact ⟨by first | rfl | rw [hB'], es, hm, rfl⟩
theorem tk_all {t : List Nd} {l : List Int} {lst : List Nat} (hw : WfT t) (hb : begs t = some lst) (hl : l.length ≤ 1000000) : ∀ n, n < t.length → ∀ d i j, j - i ≤ d → i ≤ j → j ≤ l.length → Tk t l n i j := by
  intro n
  induction n using Nat.strongRecOn with
  | ind n ihn =>
    intro hn d
    induction d using Nat.strongRecOn with
    | ind d ihd =>
      intro i j hd hij hj
      have hmem := getD_mem hn
      have hc := (hw.all _ hmem).set.len
      obtain ⟨hle, hcut⟩ := begs_cut hb n hn
      have hne : t[n] = t.getD n default := by
        rw [List.getD_eq_getElem?_getD, List.getElem?_eq_getElem hn]
        rfl
      rw [hne] at hcut
      generalize hx : t.getD n default = x at hc hcut
      obtain ⟨k, a, b, c, z⟩ := x
      simp only at hc
      have fork : (k = 3 ∨ k = 4) → ∃ a' b' : Nat, a = a' ∧ b = b' ∧ a' < n ∧ b' < n := fun hk => by
        cases hcut with
        | fork hf c2 hb0 c1 ha hn2 hg0 =>
          simp only at ha hb0
          have := (begs_cut hb (n - 1) (by omega)).1
          exact ⟨lst.getD (n - 1) 0 - 1, n - 1, by omega, by omega, by omega, by omega⟩
        | star hf hk5 => simp only at hk5; omega
        | leaf hf hk5 => rcases hk with rfl | rfl <;> simp [isFork] at hf
      refine run72 hn hx (run105 hx hc hij hj hl (fun hk => ?_) (fun hk => ?_) (fun hk => ?_))
      · obtain ⟨a', b', e1, e2, h1, h2⟩ := fork (.inr hk)
        exact ⟨a', b', e1, e2, h1, h2, ihn a' h1 (by omega) (j - i) i j (Nat.le_refl _) hij hj, ihn b' h2 (by omega) (j - i) i j (Nat.le_refl _) hij hj⟩
      · obtain ⟨a', b', e1, e2, h1, h2⟩ := fork (.inl hk)
        exact ⟨a', b', e1, e2, h1, h2, fun m h3 h4 => ihn a' h1 (by omega) (m - i) i m (Nat.le_refl _) h3 (by omega), fun m h3 h4 => ihn b' h2 (by omega) (j - m) m j (Nat.le_refl _) h4 hj⟩
      · cases hcut with
        | fork hf => subst hk; simp [isFork] at hf
        | leaf hf hk5 => exact absurd hk hk5
        | star hf hk5 c1 ha hb0 hn2 hg0 =>
          simp only at ha
          refine ⟨n - 1, by omega, by omega, fun m h3 h4 => ihn (n - 1) (by omega) (by omega) (m - i) i m (Nat.le_refl _) (by omega) (by omega), fun m h3 h4 => ihd (j - m) (by omega) m j (Nat.le_refl _) h4 hj⟩
theorem run31 (t : List Nd) (l : List Int) (hw : WfT t) (hl : l.length ≤ 1000000) : cwp w0 20 [] [(AV.list 5 (List.map eNd t)), (AV.list 1 (List.map (fun x => [AV.int .i64 x]) (l)))] [] (fun r H => r = .bool (takesT t l) ∧ H = []) := by
  refine run_fn (fn := fn31) rfl rfl ?_
  by_cases g : goodT t = true
  · obtain ⟨h1, h2, lst, hb, h3⟩ := goodT_iff.1 g
    have hm := wrapm (j := t.length) (by omega) (by omega)
    have hr : takesT t l = tk t l (t.length - 1) 0 l.length := by simp [takesT, g]
    simp only [fn31_body, c31, D0, SP0, seval, -Int.reduceNatCast', @use_all w0 25 k29.ora rfl, e29, hw, g, hm]
    have hbs : Bs t l [[([8], .box [(AV.list 5 (List.map eNd t)), (AV.list 1 (List.map (fun x => [AV.int .i64 x]) (l))), .map [6]]), ([6], .map [])]] := ⟨rfl, rfl⟩
    have run := tk_all hw hb hl (t.length - 1) (by omega) l.length 0 l.length (by omega) (by omega) (Nat.le_refl _) _ hbs [] (fun e he => by simp at he) [16] (by simp)
    refine cg_use run ?_
    rintro v H' ⟨rfl, es, _, rfl⟩
    simp only [D0, SP0, seval, -Int.reduceNatCast']
    simp only [F1, SF0, SP0, seval, -Int.reduceNatCast', fn31_res, fn31_keep, hr]
  · have g' : goodT t = false := by simpa using g
    have hr : takesT t l = false := by simp [takesT, g']
    simp only [fn31_body, c31, D0, SP0, seval, -Int.reduceNatCast', @use_all w0 25 k29.ora rfl, e29, hw, g']
    simp only [F1, SF0, SP0, seval, -Int.reduceNatCast', fn31_res, fn31_keep, hr]
noncomputable def k31 : Kon (List Nd × List Int) := ⟨fun x => WfT x.1 ∧ x.2.length ≤ 1000000, fun x => [(AV.list 5 (List.map eNd x.1)), (AV.list 1 (List.map (fun x => [AV.int .i64 x]) (x.2)))], fun x => .bool (takesT x.1 x.2)⟩
theorem e31 (t : List Nd) (l : List Int) (hd : WfT t ∧ l.length ≤ 1000000) (q0 : Id) (H0 : Heap) : k31.ora q0 ([(AV.list 5 (List.map eNd t)), (AV.list 1 (List.map (fun x => [AV.int .i64 x]) (l)))]) H0 = some (.bool (takesT t l), H0) := k31.eq (by dsimp only [k31]; rintro ⟨a, m⟩ ⟨b, n⟩ h; simp only [List.cons.injEq, and_true] at h; rw [eTree_inj (a := a) (b := b) h.1, eRow_inj (a := m) (b := n) h.2]) (t, l) hd q0 H0
theorem ook31 : OraOK Tryz.prog (20 % 100000) k31.ora := k31.ok orders w0_ok (fun x hd => by simp [k31, PU]) (fun x hd => by simp [k31, PU]) (fun x hd => run31 x.1 x.2 hd.1 hd.2)

noncomputable def w1 : FT := upd (w0) 20 k31.ora
theorem w1_ok : FTOK Tryz.prog w1 := upd_ok2 (f := 20) (w0_ok) ook31

end Go.Proofs.Abs

set_option maxRecDepth 100000
set_option maxHeartbeats 1000000
namespace Go.Proofs.Abs
open Go
theorem tk_map {t t' : List Nd} {l l' : List Int} {lst : List Nat} {s r : Nat} (hb : begs t = some lst) (hN : ∀ n, n < t.length → t'.getD (n + s) default = movN (t.getD n default) s) (hL : ∀ i, i < l.length → l'.getD (i + r) 0 = l.getD i 0) :
    ∀ n, n < t.length → ∀ d i j, j - i ≤ d → i ≤ j → j ≤ l.length → tk t' l' (n + s) (i + r) (j + r) = tk t l n i j := by
  intro n
  induction n using Nat.strongRecOn with
  | ind n ihn =>
    intro hn d
    induction d using Nat.strongRecOn with
    | ind d ihd =>
      intro i j hd hij hj
      obtain ⟨hle, hcut⟩ := begs_cut hb n hn
      have hne : t[n] = t.getD n default := by
        rw [List.getD_eq_getElem?_getD, List.getElem?_eq_getElem hn]
        rfl
      rw [hne] at hcut
      have hx' := hN n hn
      generalize hx : t.getD n default = x at hcut hx'
      obtain ⟨k, a, b, c, z⟩ := x
      cases hcut with
      | fork hf c2 hb0 c1 ha hn2 hg0 =>
        simp only at ha hb0
        have := (begs_cut hb (n - 1) (by omega)).1
        obtain ⟨a', rfl⟩ : ∃ a' : Nat, a = a' := ⟨lst.getD (n - 1) 0 - 1, by omega⟩
        obtain ⟨b', rfl⟩ : ∃ b' : Nat, b = b' := ⟨n - 1, by omega⟩
        have hm : movN ⟨k, (a' : Int), (b' : Int), c, z⟩ (s : Int) = ⟨k, ((a' + s : Nat) : Int), ((b' + s : Nat) : Int), c, z⟩ := by
          unfold movN
          rw [if_pos hf]
          simp
        rw [hm] at hx'
        have h1 : a' < n := by omega
        have h2 : b' < n := by omega
        have hk : k = 3 ∨ k = 4 := by simpa [isFork] using hf
        rcases hk with rfl | rfl
        · rw [tk_cat (t := t') (by rw [hx']) (a := a' + s) (b := b' + s) (by rw [hx']) (by rw [hx']) (by omega) (by omega), tk_cat (t := t) (by rw [hx]) (a := a') (b := b') (by rw [hx]) (by rw [hx]) h1 h2]
          rw [show j + r + 1 - (i + r) = j + 1 - i by omega]
          refine any_congr fun d' hd' => ?_
          have e1 := ihn a' h1 (by omega) (i + d' - i) i (i + d') (Nat.le_refl _) (by omega) (by omega)
          have e2 := ihn b' h2 (by omega) (j - (i + d')) (i + d') j (Nat.le_refl _) (by omega) hj
          rw [show i + d' + r = i + r + d' by omega] at e1 e2
          rw [e1, e2]
        · rw [tk_alt (t := t') (by rw [hx']) (a := a' + s) (b := b' + s) (by rw [hx']) (by rw [hx']) (by omega) (by omega), tk_alt (t := t) (by rw [hx]) (a := a') (b := b') (by rw [hx]) (by rw [hx]) h1 h2]
          rw [ihn a' h1 (by omega) (j - i) i j (Nat.le_refl _) hij hj, ihn b' h2 (by omega) (j - i) i j (Nat.le_refl _) hij hj]
      | star hf hk c1 ha hb0 hn2 hg0 =>
        simp only at ha hb0 hk
        subst hk
        obtain ⟨a', rfl⟩ : ∃ a' : Nat, a = a' := ⟨n - 1, by omega⟩
        have hm : movN ⟨5, (a' : Int), b, c, z⟩ (s : Int) = ⟨5, ((a' + s : Nat) : Int), b, c, z⟩ := by
          unfold movN
          rw [if_neg (by simp [hf]), if_pos rfl]
          simp
        rw [hm] at hx'
        have h1 : a' < n := by omega
        rw [tk_star (t := t') (by rw [hx']) (a := a' + s) (by rw [hx']) (by omega), tk_star (t := t) (by rw [hx]) (a := a') (by rw [hx]) h1]
        rw [show j + r - (i + r) = j - i by omega]
        have e0 : decide (i + r = j + r) = decide (i = j) := by
          by_cases h : i = j
          · simp [h]
          · simp [h]
        rw [e0]
        congr 1
        refine any_congr fun d' hd' => ?_
        have e1 := ihn a' h1 (by omega) (i + 1 + d' - i) i (i + 1 + d') (Nat.le_refl _) (by omega) (by omega)
        have e2 := ihd (j - (i + 1 + d')) (by omega) (i + 1 + d') j (Nat.le_refl _) (by omega) hj
        rw [show i + 1 + d' + r = i + r + 1 + d' by omega] at e1 e2
        rw [e1, e2]
      | leaf hf hk hn2 hg0 =>
        simp only at hk
        rw [movN_leaf hf hk] at hx'
        have hk3 : k ≠ 3 := by simp [isFork] at hf; exact hf.1
        have hk4 : k ≠ 4 := by simp [isFork] at hf; exact hf.2
        by_cases k1 : k = 1
        · rw [tk_empty (t := t') (by rw [hx']; exact k1), tk_empty (t := t) (by rw [hx]; exact k1)]
          by_cases h : i = j
          · simp [h]
          · simp [h]
        · by_cases k2 : k = 2
          · rw [tk_one (t := t') (by rw [hx']; exact k2), tk_one (t := t) (by rw [hx]; exact k2), hx, hx']
            by_cases h : j = i + 1
            · subst h
              rw [hL i (by omega)]
              simp; omega
            · have h2 : ¬ (j + r = i + r + 1) := by omega
              simp [h, h2]
          · rw [tk_other (t := t') (by rw [hx']; exact k1) (by rw [hx']; exact k2) (by rw [hx']; exact hk3) (by rw [hx']; exact hk4) (by rw [hx']; exact hk), tk_other (t := t) (by rw [hx]; exact k1) (by rw [hx]; exact k2) (by rw [hx]; exact hk3) (by rw [hx]; exact hk4) (by rw [hx]; exact hk)]
theorem tk_sub {t : List Nd} {l : List Int} {lst : List Nat} (hb : begs t = some lst) {n : Nat} (hn : n < t.length) {p q : Nat} (hp : p ≤ q) (hq : q ≤ l.length) : tk t ((l.take q).drop p) n 0 (q - p) = tk t l n p q := by
  have h := tk_map (t := t) (t' := t) (l := (l.take q).drop p) (l' := l) (s := 0) (r := p) hb (fun n _ => by simp [movN_zero]) (fun i hi => by
    have hi' : i < q - p := by simp at hi; omega
    rw [List.getD_eq_getElem?_getD, List.getD_eq_getElem?_getD, List.getElem?_drop, List.getElem?_take_of_lt (by omega), Nat.add_comm]) n hn (q - p) 0 (q - p) (by omega) (by omega) (by simp; omega)
  simp only [Nat.add_zero, Nat.zero_add, Nat.sub_add_cancel hp] at h
  exact h.symm
theorem takes_take {t : List Nd} {l : List Int} (g : goodT t = true) {q : Nat} (hq : q ≤ l.length) : takesT t (l.take q) = tk t l (t.length - 1) 0 q := by
  obtain ⟨h1, h2, lst, hb, h3⟩ := goodT_iff.1 g
  have := tk_sub (l := l) hb (n := t.length - 1) (by omega) (Nat.zero_le q) hq
  simp only [List.drop_zero, Nat.sub_zero] at this
  simp only [takesT, g, Bool.true_and]
  rw [← this, List.length_take, Nat.min_eq_left hq]
theorem takes_drop {t : List Nd} {l : List Int} (g : goodT t = true) {p : Nat} (hp : p ≤ l.length) : takesT t (l.drop p) = tk t l (t.length - 1) p l.length := by
  obtain ⟨h1, h2, lst, hb, h3⟩ := goodT_iff.1 g
  have := tk_sub (l := l) hb (n := t.length - 1) (by omega) hp (Nat.le_refl _)
  simp only [List.take_length] at this
  simp only [takesT, g, Bool.true_and]
  rw [← this, List.length_drop]
theorem takes_all {t : List Nd} {l : List Int} (g : goodT t = true) : takesT t l = tk t l (t.length - 1) 0 l.length := by simp [takesT, g]
theorem join_left {k : Int} {a b : List Nd} {l : List Int} (ga : goodT a = true) {i j : Nat} (hij : i ≤ j) (hj : j ≤ l.length) : tk (joinT k a b) l (a.length - 1) i j = tk a l (a.length - 1) i j := by
  obtain ⟨h1, h2, lst, hb, h3⟩ := goodT_iff.1 ga
  have := tk_map (t := a) (t' := joinT k a b) (l := l) (l' := l) (s := 0) (r := 0) hb (fun n hn => by
    have e : (joinT k a b).getD (n + 0) default = a.getD n default := by
      rw [List.getD_eq_getElem?_getD, List.getD_eq_getElem?_getD]
      unfold joinT
      rw [Nat.add_zero, List.append_assoc, List.getElem?_append_left hn]
    rw [e]; simp [movN_zero]) (fun i hi => by simp) (a.length - 1) (by omega) (j - i) i j (Nat.le_refl _) hij hj
  simpa using this
theorem star_left {a : List Nd} {l : List Int} (ga : goodT a = true) {i j : Nat} (hij : i ≤ j) (hj : j ≤ l.length) : tk (starT a) l (a.length - 1) i j = tk a l (a.length - 1) i j := by
  obtain ⟨h1, h2, lst, hb, h3⟩ := goodT_iff.1 ga
  have := tk_map (t := a) (t' := starT a) (l := l) (l' := l) (s := 0) (r := 0) hb (fun n hn => by
    have e : (starT a).getD (n + 0) default = a.getD n default := by
      rw [List.getD_eq_getElem?_getD, List.getD_eq_getElem?_getD]
      unfold starT
      rw [Nat.add_zero, List.getElem?_append_left hn]
    rw [e]; simp [movN_zero]) (fun i hi => by simp) (a.length - 1) (by omega) (j - i) i j (Nat.le_refl _) hij hj
  simpa using this
theorem join_right {k : Int} {a b : List Nd} {l : List Int} (gb : goodT b = true) {i j : Nat} (hij : i ≤ j) (hj : j ≤ l.length) : tk (joinT k a b) l (b.length - 1 + a.length) i j = tk b l (b.length - 1) i j := by
  obtain ⟨h1, h2, lst, hb, h3⟩ := goodT_iff.1 gb
  have := tk_map (t := b) (t' := joinT k a b) (l := l) (l' := l) (s := a.length) (r := 0) hb (fun n hn => by
    rw [List.getD_eq_getElem?_getD, List.getD_eq_getElem?_getD]
    unfold joinT
    rw [List.append_assoc, List.getElem?_append_right (by omega), Nat.add_sub_cancel, List.getElem?_append_left (by rw [mov_len]; exact hn)]
    unfold mov
    rw [List.getElem?_map, List.getElem?_eq_getElem hn]
    rfl) (fun i hi => by simp) (b.length - 1) (by omega) (j - i) i j (Nat.le_refl _) hij hj
  simpa using this
def catF (a b : List Nd) (l : List Int) (k : Nat) : Bool := (List.range k).any fun d => tk a l (a.length - 1) 0 d && tk b l (b.length - 1) d l.length
def starF (a : List Nd) (l : List Int) (k : Nat) : Bool := decide (l.length = 0) || (List.range k).any fun d => decide (0 < d) && (tk a l (a.length - 1) 0 d && tk (starT a) l a.length d l.length)
theorem any_succ (f : Nat → Bool) (k : Nat) : (List.range (k + 1)).any f = ((List.range k).any f || f k) := by
  rw [List.range_succ, List.any_append]
  simp
theorem catF_succ (a b : List Nd) (l : List Int) (k : Nat) : catF a b l (k + 1) = (catF a b l k || (tk a l (a.length - 1) 0 k && tk b l (b.length - 1) k l.length)) := any_succ _ _
theorem starF_succ (a : List Nd) (l : List Int) (k : Nat) : starF a l (k + 1) = (starF a l k || (decide (0 < k) && (tk a l (a.length - 1) 0 k && tk (starT a) l a.length k l.length))) := by
  unfold starF
  rw [any_succ, Bool.or_assoc]
theorem takes_cat {a b : List Nd} {l : List Int} (ga : goodT a = true) (gb : goodT b = true) (hl : a.length + b.length + 1 ≤ 40000) : takesT (joinT 3 a b) l = catF a b l (l.length + 1) := by
  have g := good_join (k := 3) (.inl rfl) ga gb hl
  have h1 : 1 ≤ a.length := (goodT_iff.1 ga).1
  have h2 : 1 ≤ b.length := (goodT_iff.1 gb).1
  rw [takes_all g, joinT_len, Nat.add_sub_cancel]
  have e : (joinT 3 a b).getD (a.length + b.length) default = ⟨3, ((a.length - 1 : Nat) : Int), ((b.length - 1 + a.length : Nat) : Int), [], ⟨#[]⟩⟩ := by
    have := last_join 3 a b
    unfold lastN at this
    rw [joinT_len, Nat.add_sub_cancel] at this
    rw [this]
    simp only [Nd.mk.injEq, and_true, true_and]
    omega
  rw [tk_cat (by rw [e]) (a := a.length - 1) (b := b.length - 1 + a.length) (by rw [e]) (by rw [e]) (by omega) (by omega)]
  unfold catF
  refine any_congr fun d hd => ?_
  rw [Nat.zero_add, join_left ga (Nat.zero_le _) (by omega), join_right gb (by omega) (Nat.le_refl _)]
theorem takes_alt {a b : List Nd} {l : List Int} (ga : goodT a = true) (gb : goodT b = true) (hl : a.length + b.length + 1 ≤ 40000) : takesT (joinT 4 a b) l = (takesT a l || takesT b l) := by
  have g := good_join (k := 4) (.inr rfl) ga gb hl
  have h1 : 1 ≤ a.length := (goodT_iff.1 ga).1
  have h2 : 1 ≤ b.length := (goodT_iff.1 gb).1
  rw [takes_all g, takes_all ga, takes_all gb, joinT_len, Nat.add_sub_cancel]
  have e : (joinT 4 a b).getD (a.length + b.length) default = ⟨4, ((a.length - 1 : Nat) : Int), ((b.length - 1 + a.length : Nat) : Int), [], ⟨#[]⟩⟩ := by
    have := last_join 4 a b
    unfold lastN at this
    rw [joinT_len, Nat.add_sub_cancel] at this
    rw [this]
    simp only [Nd.mk.injEq, and_true, true_and]
    omega
  rw [tk_alt (by rw [e]) (a := a.length - 1) (b := b.length - 1 + a.length) (by rw [e]) (by rw [e]) (by omega) (by omega), join_left ga (Nat.zero_le _) (Nat.le_refl _), join_right gb (Nat.zero_le _) (Nat.le_refl _)]
theorem takes_star {a : List Nd} {l : List Int} (ga : goodT a = true) (hl : a.length + 1 ≤ 40000) : takesT (starT a) l = starF a l (l.length + 1) := by
  have g := good_star ga hl
  have h1 : 1 ≤ a.length := (goodT_iff.1 ga).1
  rw [takes_all g, starT_len, Nat.add_sub_cancel]
  have e : (starT a).getD a.length default = ⟨5, ((a.length - 1 : Nat) : Int), 0, [], ⟨#[]⟩⟩ := by
    have := last_star a
    unfold lastN at this
    rw [starT_len, Nat.add_sub_cancel] at this
    rw [this]
    simp only [Nd.mk.injEq, and_true, true_and]
    omega
  rw [tk_star (t := starT a) (n := a.length) (by rw [e]) (a := a.length - 1) (by rw [e]) (by omega)]
  unfold starF
  have e0 : decide (0 = l.length) = decide (l.length = 0) := by rw [Bool.eq_iff_iff]; simp only [decide_eq_true_eq]; omega
  rw [e0]
  congr 1
  rw [Bool.eq_iff_iff]
  simp only [List.any_eq_true, List.mem_range, Bool.and_eq_true, decide_eq_true_eq]
  constructor
  · rintro ⟨d, hd, e1, e2⟩
    rw [star_left ga (by omega) (by omega), Nat.zero_add, Nat.add_comm] at e1
    rw [Nat.zero_add, Nat.add_comm] at e2
    exact ⟨d + 1, by omega, by omega, e1, e2⟩
  · rintro ⟨d, hd, hd0, e1, e2⟩
    obtain ⟨d, rfl⟩ : ∃ d', d = d' + 1 := ⟨d - 1, by omega⟩
    refine ⟨d, by omega, ?_, ?_⟩
    · rw [star_left ga (by omega) (by omega), Nat.zero_add, Nat.add_comm]; exact e1
    · rw [Nat.zero_add, Nat.add_comm]; exact e2
theorem takes_leaf (k : Int) (l : List Int) : takesT (leafT k) l = (decide (k = 1) && decide (l.length = 0)) := by
  have g : goodT (leafT k) = true := by
    by_cases h : k = 1 <;> simp [goodT, leafT, h, begs, begsFrom, stepB, isFork, leafN, bareN, ByteArray.size]
  rw [takes_all g]
  have hn : (leafT k).length - 1 = 0 := rfl
  rw [hn]
  have e : (leafT k).getD 0 default = ⟨if k = 1 then 1 else 0, 0, 0, [], ⟨#[]⟩⟩ := rfl
  by_cases h : k = 1
  · rw [if_pos h] at e
    rw [tk_empty (by rw [e])]
    have e0 : decide (0 = l.length) = decide (l.length = 0) := by rw [Bool.eq_iff_iff]; simp only [decide_eq_true_eq]; omega
    rw [e0, decide_eq_true h, Bool.true_and]
  · rw [if_neg h] at e
    rw [tk_other (by rw [e]; decide) (by rw [e]; decide) (by rw [e]; decide) (by rw [e]; decide) (by rw [e]; decide)]
    simp [h]
end Go.Proofs.Abs

set_option maxRecDepth 100000
namespace Go.Proofs.Abs
open Go
structure Plain (l : List Tr) : Prop where
  nd : l.Nodup
  no0 : ∀ m ∈ l, rk m ≠ 0
  no1 : hasStar l = true → ∀ m ∈ l, rk m ≠ 1
def Nf : Tr → Prop
  | .leaf n => leafN n = true
  | .cat a b => Nf a ∧ Nf b ∧ rk a ≠ 0 ∧ rk a ≠ 1 ∧ rk b ≠ 0 ∧ rk b ≠ 1 ∧ rk b ≠ 3
  | .alt a b => Nf a ∧ Nf b ∧ rk b ≠ 4 ∧ Plain (mems a ++ mems b)
  | .star a => Nf a ∧ rk a ≠ 0 ∧ rk a ≠ 1 ∧ rk a ≠ 5 ∧ ∀ m ∈ mems a, rk m ≠ 1
theorem hasStar_sub {l m : List Tr} (h : List.Sublist l m) (hs : hasStar l = true) : hasStar m = true := by
  unfold hasStar at *
  rw [List.any_eq_true] at *
  obtain ⟨t, h1, h2⟩ := hs
  exact ⟨t, h.subset h1, h2⟩
theorem Plain.sub {l m : List Tr} (h : Plain m) (hs : List.Sublist l m) : Plain l :=
  ⟨h.nd.sublist hs, fun x hx => h.no0 x (hs.subset hx), fun hh x hx => h.no1 (hasStar_sub hs hh) x (hs.subset hx)⟩
theorem plain_one {a : Tr} (h : rk a ≠ 0) : Plain [a] := by
  refine ⟨by simp, fun m hm => ?_, fun hs m hm => ?_⟩
  · simp only [List.mem_singleton] at hm; subst hm; exact h
  · simp only [List.mem_singleton] at hm
    subst hm
    simp only [hasStar, List.any_cons, List.any_nil, Bool.or_false, decide_eq_true_eq] at hs
    omega
theorem dedup_nd : ∀ l : List Tr, (dedup l).Nodup := by
  have key : ∀ (l m : List Tr), m.Nodup → (l.foldl (fun out t => if t ∈ out then out else out ++ [t]) m).Nodup := by
    intro l
    induction l with
    | nil => intro m h; exact h
    | cons t l ih =>
      intro m h
      rw [List.foldl_cons]
      refine ih _ ?_
      split
      · exact h
      · rename_i ht
        rw [List.nodup_append]
        refine ⟨h, by simp, fun a ha b hb => ?_⟩
        simp only [List.mem_singleton] at hb
        subst hb
        intro e
        exact ht (e ▸ ha)
  intro l
  exact key l [] (by simp)
theorem dedup_id : ∀ {l : List Tr}, l.Nodup → dedup l = l := by
  have key : ∀ (l m : List Tr), (m ++ l).Nodup → l.foldl (fun out t => if t ∈ out then out else out ++ [t]) m = m ++ l := by
    intro l
    induction l with
    | nil => intro m h; simp
    | cons t l ih =>
      intro m h
      have ht : ¬ t ∈ m := fun hm => by
        rw [List.nodup_append] at h
        exact h.2.2 t hm t (by simp) rfl
      rw [List.foldl_cons, if_neg ht, ih (m ++ [t]) (by simpa using h)]
      simp
  intro l h
  exact key l [] (by simpa using h)
theorem onceT_id {l : List Tr} (h : Plain l) : onceT l = l := by
  unfold onceT
  rw [dedup_id h.nd]
  split
  · rename_i hs
    exact List.filter_eq_self.2 fun m hm => by simpa using h.no1 hs m hm
  · rfl
theorem plain_once {l : List Tr} (h : ∀ m ∈ l, rk m ≠ 0) : Plain (onceT l) := by
  have hd : ∀ m ∈ dedup l, rk m ≠ 0 := fun m hm => h m ((dedup_sub l).subset hm)
  unfold onceT
  split
  · exact ⟨(dedup_nd l).sublist List.filter_sublist, fun m hm => hd m (mem_noK.1 hm).1, fun _ m hm => (mem_noK.1 hm).2⟩
  · rename_i hs
    exact ⟨dedup_nd l, hd, fun hh => absurd hh hs⟩
def Mem1 (l : List Tr) : Prop := ∀ m ∈ l, Nf m ∧ rk m ≠ 4
theorem alts_nf : ∀ (r : List Tr) (a : Tr), Nf a → Plain (mems a ++ r) → Mem1 r → Nf (r.foldl .alt a) ∧ mems (r.foldl .alt a) = mems a ++ r
  | [], a, h, _, _ => ⟨h, by simp⟩
  | y :: r, a, h, hp, hm => by
    have hy := hm y (by simp)
    have hmy : mems y = [y] := mems_one hy.2
    have h1 : mems (.alt a y) = mems a ++ [y] := by simp [mems, hmy]
    have h2 : Nf (.alt a y) := ⟨h, hy.1, hy.2, by rw [hmy]; exact hp.sub (by simp)⟩
    have := alts_nf r (.alt a y) h2 (by rw [h1]; simpa using hp) (fun m hm' => hm m (by simp [hm']))
    rw [List.foldl_cons]
    refine ⟨this.1, ?_⟩
    rw [this.2, h1]
    simp
theorem altL_nf {l : List Tr} (hne : l ≠ []) (hp : Plain l) (hm : Mem1 l) : Nf (altL l) ∧ mems (altL l) = l := by
  cases l with
  | nil => exact absurd rfl hne
  | cons x r =>
    have hx := hm x (by simp)
    have hmx := mems_one hx.2
    have := alts_nf r x hx.1 (by rw [hmx]; exact hp) (fun m h => hm m (by simp [h]))
    exact ⟨this.1, by simp only [altL]; rw [this.2, hmx]; rfl⟩
theorem rk0_one {a : Tr} (h : rk a = 0) : mems a = [a] := mems_one (by omega)
theorem nf_mems : ∀ a, Nf a → Mem1 (mems a)
  | .leaf n, h, m, hm => by
    have e : mems (.leaf n) = [.leaf n] := rfl
    rw [e, List.mem_singleton] at hm
    subst hm
    refine ⟨h, ?_⟩
    rcases leaf_kind h with e | e | e <;> simp [rk, e]
  | .cat a b, h, m, hm => by
    have e : mems (.cat a b) = [.cat a b] := rfl
    rw [e, List.mem_singleton] at hm
    subst hm
    exact ⟨h, by simp [rk]⟩
  | .star a, h, m, hm => by
    have e : mems (.star a) = [.star a] := rfl
    rw [e, List.mem_singleton] at hm
    subst hm
    exact ⟨h, by simp [rk]⟩
  | .alt a b, h, m, hm => by
    simp only [mems, List.mem_append] at hm
    rcases hm with hm | hm
    · exact nf_mems a h.1 m hm
    · exact nf_mems b h.2.1 m hm
theorem nf_never : Nf never := rfl
theorem nf_empty : Nf empty := rfl
theorem nf_rk0 {a : Tr} (h : Nf a) (e : rk a = 0) : a = never := by
  cases a with
  | leaf n => simp only [rk] at e; have := leaf_bare h (by omega); rw [e] at this; rw [this]; rfl
  | cat => simp [rk] at e
  | alt => simp [rk] at e
  | star => simp [rk] at e
theorem nf_rk1 {a : Tr} (h : Nf a) (e : rk a = 1) : a = empty := by
  cases a with
  | leaf n => simp only [rk] at e; have := leaf_bare h (by omega); rw [e] at this; rw [this]; rfl
  | cat => simp [rk] at e
  | alt => simp [rk] at e
  | star => simp [rk] at e
theorem nf_plain {a : Tr} (h : Nf a) (h0 : rk a ≠ 0) : Plain (mems a) := by
  cases a with
  | leaf n => exact plain_one h0
  | cat => exact plain_one h0
  | star => exact plain_one h0
  | alt a b => exact h.2.2.2
theorem altL_snoc {l : List Tr} (h : l ≠ []) (x : Tr) : altL (l ++ [x]) = .alt (altL l) x := by
  cases l with
  | nil => exact absurd rfl h
  | cons y r => simp [altL, List.foldl_append]
theorem altL_mems : ∀ a, Nf a → altL (mems a) = a
  | .leaf n, h => rfl
  | .cat a b, h => rfl
  | .star a, h => rfl
  | .alt a b, h => by
    have e : mems (.alt a b) = mems a ++ [b] := by simp [mems, mems_one h.2.2.1]
    rw [e, altL_snoc (mems_ne a), altL_mems a h.1]
theorem mem1_app {l m : List Tr} (h1 : Mem1 l) (h2 : Mem1 m) : Mem1 (l ++ m) := fun x hx => by
  rcases List.mem_append.1 hx with h | h
  · exact h1 x h
  · exact h2 x h
theorem mem1_sub {l m : List Tr} (h : Mem1 m) (hs : List.Sublist l m) : Mem1 l := fun x hx => h x (hs.subset hx)
theorem alt_rk {a : Tr} (h : Nf a) (hp : Plain (mems a)) : rk a ≠ 0 := fun e => by
  have := hp.no0 a (by rw [rk0_one e]; simp)
  exact this e
theorem nf_sAlt {a b : Tr} (ha : Nf a) (hb : Nf b) : Nf (sAlt a b) := by
  unfold sAlt
  split
  · exact hb
  split
  · exact ha
  rename_i h1 h2
  have hp := plain_once (l := mems a ++ mems b) fun m hm => by
    rcases List.mem_append.1 hm with h | h
    · exact (nf_plain ha h1).no0 m h
    · exact (nf_plain hb h2).no0 m h
  exact (altL_nf (onceT_ne (by simp [mems_ne])) hp (mem1_sub (mem1_app (nf_mems a ha) (nf_mems b hb)) (onceT_sub _))).1
theorem sAlt_mems {a b : Tr} (ha : Nf a) (hb : Nf b) (h1 : rk a ≠ 0) (h2 : rk b ≠ 0) : mems (sAlt a b) = onceT (mems a ++ mems b) ∧ rk (sAlt a b) ≠ 0 := by
  have hp := plain_once (l := mems a ++ mems b) fun m hm => by
    rcases List.mem_append.1 hm with h | h
    · exact (nf_plain ha h1).no0 m h
    · exact (nf_plain hb h2).no0 m h
  have e : sAlt a b = altL (onceT (mems a ++ mems b)) := by simp [sAlt, h1, h2]
  obtain ⟨n1, n2⟩ := altL_nf (onceT_ne (l := mems a ++ mems b) (by simp [mems_ne])) hp (mem1_sub (mem1_app (nf_mems a ha) (nf_mems b hb)) (onceT_sub _))
  rw [e]
  exact ⟨n2, alt_rk n1 (by rw [n2]; exact hp)⟩
theorem nf_sCat : ∀ (b a : Tr), Nf a → Nf b → Nf (sCat a b)
  | .leaf n, a, ha, hb => by
    simp only [sCat]
    split
    · exact nf_never
    rename_i h0
    split
    · exact hb
    rename_i h1
    split
    · exact ha
    rename_i h2
    refine ⟨ha, hb, fun e => h0 (.inl e), h1, fun e => h0 (.inr e), h2, ?_⟩
    rcases leaf_kind hb with e | e | e <;> simp [rk, e]
  | .alt x y, a, ha, hb => by
    simp only [sCat]
    split
    · exact nf_never
    rename_i h0
    split
    · exact hb
    rename_i h1
    exact ⟨ha, hb, h0, h1, by simp [rk], by simp [rk], by simp [rk]⟩
  | .star x, a, ha, hb => by
    simp only [sCat]
    split
    · exact nf_never
    rename_i h0
    split
    · exact hb
    rename_i h1
    exact ⟨ha, hb, h0, h1, by simp [rk], by simp [rk], by simp [rk]⟩
  | .cat x y, a, ha, hb => by
    simp only [sCat]
    split
    · exact nf_never
    split
    · exact hb
    exact nf_sCat y _ (nf_sCat x a ha hb.1) hb.2.1
theorem nf_star1 {a : Tr} (h : Nf a) (h4 : rk a ≠ 4) : Nf (star1 a) := by
  unfold star1
  split
  · exact nf_empty
  split
  · exact h
  rename_i h1 h2
  refine ⟨h, fun e => h1 (.inl e), fun e => h1 (.inr e), h2, fun m hm => ?_⟩
  rw [mems_one h4, List.mem_singleton] at hm
  subst hm
  exact fun e => h1 (.inr e)
theorem fold_sAlt : ∀ (r : List Tr) (a : Tr), Nf a → Plain (mems a ++ r) → Mem1 r → r.foldl sAlt a = r.foldl .alt a
  | [], a, _, _, _ => rfl
  | y :: r, a, h, hp, hm => by
    have hy := hm y (by simp)
    have hmy : mems y = [y] := mems_one hy.2
    have pa : Plain (mems a) := hp.sub (by simp)
    have py : rk y ≠ 0 := hp.no0 y (by simp)
    have pay : Plain (mems a ++ [y]) := hp.sub (by simp)
    have e : sAlt a y = .alt a y := by
      unfold sAlt
      rw [if_neg (alt_rk h pa), if_neg py, hmy, onceT_id pay, altL_snoc (mems_ne a), altL_mems a h]
    have h1 : mems (.alt a y) = mems a ++ [y] := by simp [mems, hmy]
    have h2 : Nf (.alt a y) := ⟨h, hy.1, hy.2, by rw [hmy]; exact pay⟩
    rw [List.foldl_cons, List.foldl_cons, e]
    exact fold_sAlt r _ h2 (by rw [h1]; simpa using hp) (fun m hm' => hm m (by simp [hm']))
theorem plain_noK {l : List Tr} (h : Plain l) : Plain (noK 1 l) := h.sub List.filter_sublist
theorem full_eq {a : Tr} (h : Nf a) (h0 : rk a ≠ 0) : fullT a = if noK 1 (mems a) = [] then empty else altL (noK 1 (mems a)) := by
  have hp := plain_noK (nf_plain h h0)
  have hm : Mem1 (noK 1 (mems a)) := mem1_sub (nf_mems a h) List.filter_sublist
  unfold fullT
  cases e : noK 1 (mems a) with
  | nil => simp
  | cons x r =>
    rw [e] at hp hm
    have hx := hm x (by simp)
    simp only [reduceCtorEq, if_false, altL]
    exact fold_sAlt r x hx.1 (by rw [mems_one hx.2]; exact hp) fun m h => hm m (by simp [h])
theorem full_nf {a : Tr} (h : Nf a) (h0 : rk a ≠ 0) : Nf (fullT a) ∧ (rk (fullT a) = 4 → ∀ m ∈ mems (fullT a), rk m ≠ 1) := by
  rw [full_eq h h0]
  split
  · exact ⟨nf_empty, fun e => by simp [rk, nodeK] at e⟩
  · rename_i hne
    obtain ⟨n1, n2⟩ := altL_nf hne (plain_noK (nf_plain h h0)) (mem1_sub (nf_mems a h) List.filter_sublist)
    exact ⟨n1, fun _ m hm => by rw [n2] at hm; exact (mem_noK.1 hm).2⟩
theorem nf_sStar {a : Tr} (h : Nf a) : Nf (sStar a) := by
  unfold sStar
  by_cases h4 : rk a = 4
  · rw [if_pos h4]
    obtain ⟨f1, f2⟩ := full_nf h (by omega)
    by_cases hf : rk (fullT a) = 4
    · rw [if_pos hf]
      exact ⟨f1, by omega, by omega, by omega, f2 hf⟩
    · rw [if_neg hf]
      exact nf_star1 f1 hf
  · rw [if_neg h4]
    exact nf_star1 h h4
theorem nf_sClean : ∀ a, Ok a → Nf (sClean a)
  | .leaf n, h => h.1
  | .cat a b, h => nf_sCat _ _ (nf_sClean a h.1) (nf_sClean b h.2)
  | .alt a b, h => nf_sAlt (nf_sClean a h.1) (nf_sClean b h.2)
  | .star a, h => nf_sStar (nf_sClean a h)
theorem clean_id : ∀ a, Nf a → sClean a = a
  | .leaf n, h => rfl
  | .cat a b, h => by
    obtain ⟨h1, h2, a0, a1, b0, b1, b3⟩ := h
    simp only [sClean]
    rw [clean_id a h1, clean_id b h2]
    cases b with
    | leaf n => simp only [rk] at b0 b1; simp [sCat, a0, a1, b0, b1]
    | cat => exact absurd rfl b3
    | alt => simp [sCat, a0, a1]
    | star => simp [sCat, a0, a1]
  | .alt a b, h => by
    have hh := h
    obtain ⟨h1, h2, b4, hp⟩ := h
    simp only [sClean]
    rw [clean_id a h1, clean_id b h2]
    have pa : rk a ≠ 0 := alt_rk h1 (hp.sub (by simp))
    have pb : rk b ≠ 0 := alt_rk h2 (hp.sub (by simp))
    have := altL_mems _ hh
    simp only [mems] at this
    simp only [sAlt, pa, pb, if_false, onceT_id hp, this]
  | .star a, h => by
    obtain ⟨h1, a0, a1, a5, hm⟩ := h
    simp only [sClean]
    rw [clean_id a h1]
    unfold sStar
    by_cases h4 : rk a = 4
    · have e : noK 1 (mems a) = mems a := List.filter_eq_self.2 fun m hmm => by simpa using hm m hmm
      have hf : fullT a = a := by rw [full_eq h1 a0, e, if_neg (mems_ne a), altL_mems a h1]
      rw [if_pos h4, hf, if_pos h4]
    · rw [if_neg h4]
      simp [star1, a0, a1, a5]
theorem law_cat_e {p : Tr} (h : Nf p) : sCat p empty = p := by
  have h0 := nf_rk0 h
  have h1 := nf_rk1 h
  by_cases e0 : rk p = 0
  · rw [h0 e0]; rfl
  · by_cases e1 : rk p = 1
    · rw [h1 e1]; rfl
    · simp [sCat, e0, e1, nodeK]
theorem law_e_cat {p : Tr} (h : Nf p) : sCat empty p = p := by
  have h0 := nf_rk0 h
  have e0 : rk empty = 1 := rfl
  cases p with
  | leaf n =>
    by_cases hk : n.kind = 0
    · rw [h0 hk]; rfl
    · simp [sCat, e0, hk]
  | cat a b => simp [sCat, e0]
  | alt a b => simp [sCat, e0]
  | star a => simp [sCat, e0]
theorem law_n_cat (p : Tr) : sCat never p = never := by
  have e0 : rk never = 0 := rfl
  cases p <;> simp [sCat, e0]
theorem law_alt_n {p : Tr} (h : Nf p) : sAlt p never = p := by
  have h0 := nf_rk0 h
  have e0 : rk never = 0 := rfl
  unfold sAlt
  by_cases e : rk p = 0
  · rw [if_pos e, h0 e]
  · rw [if_neg e, if_pos e0]
theorem dedup_more {l m : List Tr} (h : ∀ x ∈ m, x ∈ dedup l) : dedup (l ++ m) = dedup l := by
  have : ∀ (m d : List Tr), (∀ x ∈ m, x ∈ d) → m.foldl (fun out t => if t ∈ out then out else out ++ [t]) d = d := by
    intro m
    induction m with
    | nil => intro d _; rfl
    | cons x m ih =>
      intro d hd
      rw [List.foldl_cons, if_pos (hd x (by simp))]
      exact ih d fun y hy => hd y (by simp [hy])
  have e : dedup (l ++ m) = m.foldl (fun out t => if t ∈ out then out else out ++ [t]) (dedup l) := by unfold dedup; rw [List.foldl_append]
  rw [e]
  exact this m _ h
theorem law_alt_self {p : Tr} (h : Nf p) : sAlt p p = p := by
  unfold sAlt
  by_cases e : rk p = 0
  · rw [if_pos e]
  · rw [if_neg e, if_neg e]
    have hp := nf_plain h e
    have e1 : dedup (mems p ++ mems p) = dedup (mems p) := dedup_more fun x hx => (dedup_mem _ _).2 hx
    have : onceT (mems p ++ mems p) = onceT (mems p) := by unfold onceT; rw [e1]
    rw [this, onceT_id hp, altL_mems p h]
theorem mem_onceT {l : List Tr} {x : Tr} : x ∈ onceT l ↔ x ∈ l ∧ (hasStar l = true → rk x ≠ 1) := by
  have hs := hasStar_dedup l
  unfold onceT
  have : ((dedup l).any fun t => decide (rk t = 5)) = hasStar l := hs
  rw [this]
  by_cases h : hasStar l = true
  · rw [if_pos h, mem_noK, dedup_mem]; simp [h]
  · rw [if_neg h, dedup_mem]; simp [h]
theorem law_alt_again {p q : Tr} (hp : Nf p) (hq : Nf q) : sAlt (sAlt p q) p = sAlt p q := by
  by_cases e0 : rk p = 0
  · have : sAlt p q = q := by simp [sAlt, e0]
    rw [this, nf_rk0 hp e0]
    exact law_alt_n hq
  by_cases e1 : rk q = 0
  · have : sAlt p q = p := by simp [sAlt, e0, e1]
    rw [this]
    exact law_alt_self hp
  obtain ⟨m1, m2⟩ := sAlt_mems hp hq e0 e1
  have hn := nf_sAlt hp hq
  generalize sAlt p q = c at m1 m2 hn
  unfold sAlt
  rw [if_neg m2, if_neg e0]
  have hpl := nf_plain hn m2
  rw [← altL_mems c hn]
  congr 1
  rw [altL_mems c hn]
  have hst : hasStar (mems c ++ mems p) = hasStar (mems c) := by
    rw [Bool.eq_iff_iff]
    constructor
    · intro h
      unfold hasStar at h ⊢
      rw [List.any_append, Bool.or_eq_true] at h
      rcases h with h | h
      · exact h
      · rw [List.any_eq_true] at h ⊢
        obtain ⟨t, h1, h2⟩ := h
        refine ⟨t, ?_, h2⟩
        rw [m1, mem_onceT]
        simp only [decide_eq_true_eq] at h2
        exact ⟨by simp [h1], fun _ => by omega⟩
    · exact fun h => hasStar_sub (by simp) h
  rw [onceT_eq, hst, keepF_eq]
  by_cases hs : hasStar (mems c) = true
  · rw [if_pos hs]
    have e : dedup (mems c ++ mems p) = dedup (mems c) ++ (noK 1 []) ∨ True := .inr trivial
    have key : ∀ (m d : List Tr), (∀ x ∈ m, x ∈ d ∨ rk x = 1) → noK 1 (m.foldl (fun out t => if t ∈ out then out else out ++ [t]) d) = noK 1 d := by
      intro m
      induction m with
      | nil => intro d _; rfl
      | cons x m ih =>
        intro d hd
        rw [List.foldl_cons]
        by_cases hx : x ∈ d
        · rw [if_pos hx]; exact ih d fun y hy => hd y (by simp [hy])
        · rw [if_neg hx, ih (d ++ [x]) fun y hy => (hd y (by simp [hy])).imp (fun h => by simp [h]) id, noK_app]
          have : rk x = 1 := (hd x (by simp)).resolve_left hx
          simp [noK, this]
    have e2 : dedup (mems c ++ mems p) = (mems p).foldl (fun out t => if t ∈ out then out else out ++ [t]) (dedup (mems c)) := by unfold dedup; rw [List.foldl_append]
    rw [e2, key, dedup_id hpl.nd]
    · exact List.filter_eq_self.2 fun m hm => by simpa using hpl.no1 hs m hm
    · intro x hx
      by_cases h1 : rk x = 1
      · exact .inr h1
      · refine .inl ((dedup_mem _ _).2 ?_)
        rw [m1, mem_onceT]
        exact ⟨by simp [hx], fun _ => h1⟩
  · rw [if_neg hs, dedup_more, dedup_id hpl.nd]
    intro x hx
    rw [dedup_mem, m1, mem_onceT]
    refine ⟨by simp [hx], fun h => ?_⟩
    exfalso
    apply hs
    rw [m1]
    unfold hasStar at h ⊢
    rw [List.any_eq_true] at h ⊢
    obtain ⟨t, h1, h2⟩ := h
    refine ⟨t, mem_onceT.2 ⟨h1, fun _ => ?_⟩, h2⟩
    simp only [decide_eq_true_eq] at h2
    omega
theorem law_star_star {p : Tr} (h : Nf p) : sStar (sStar p) = sStar p := by
  have hn := nf_sStar h
  have key : sStar p = empty ∨ rk (sStar p) = 5 := by
    unfold sStar
    split
    · split
      · exact .inr rfl
      · unfold star1; (repeat' split) <;> first | exact .inl rfl | exact .inr rfl | (right; assumption)
    · unfold star1; (repeat' split) <;> first | exact .inl rfl | exact .inr rfl | (right; assumption)
  generalize sStar p = s at key
  rcases key with e | e
  · rw [e]; rfl
  · unfold sStar
    rw [if_neg (by omega)]
    simp [star1, e]
theorem law_star_opt {p : Tr} (h : Nf p) : sStar (sAlt p empty) = sStar p := by
  have ee : rk empty = 1 := rfl
  by_cases e0 : rk p = 0
  · have : sAlt p empty = empty := by simp [sAlt, e0]
    rw [this, nf_rk0 h e0]
    rfl
  have ho := nf_sAlt h nf_empty
  obtain ⟨m1, m2⟩ := sAlt_mems h nf_empty e0 (by rw [ee]; omega)
  have hpl := nf_plain h e0
  have me : mems empty = [empty] := rfl
  rw [me] at m1
  by_cases hs : hasStar (mems p) = true
  · have : sAlt p empty = p := by
      rw [← altL_mems _ ho, m1]
      have hs2 : hasStar (mems p ++ [empty]) = true := hasStar_sub (by simp) hs
      have : onceT (mems p ++ [empty]) = mems p := by
        rw [onceT_eq, hs2, keepF_eq, if_pos rfl, dedup_snoc, dedup_id hpl.nd]
        have hne : ¬ empty ∈ mems p := fun hm => hpl.no1 hs _ hm rfl
        rw [if_neg hne, noK_app]
        have e1 : noK 1 (mems p) = mems p := List.filter_eq_self.2 fun m hm => by simpa using hpl.no1 hs m hm
        rw [e1]
        simp [noK, ee]
      rw [this, altL_mems p h]
    rw [this]
  · have hs' : hasStar (mems p) = false := by simpa using hs
    have hs2 : hasStar (mems p ++ [empty]) = false := by rw [hasStar_snoc, hs', ee]; rfl
    have hon : onceT (mems p ++ [empty]) = if empty ∈ mems p then mems p else mems p ++ [empty] := by
      rw [onceT_eq, hs2, keepF_eq]
      simp only [Bool.false_eq_true, if_false]
      rw [dedup_snoc, dedup_id hpl.nd]
    by_cases hm : empty ∈ mems p
    · rw [if_pos hm] at hon
      have : sAlt p empty = p := by rw [← altL_mems _ ho, m1, hon, altL_mems p h]
      rw [this]
    · rw [if_neg hm] at hon
      have e : sAlt p empty = .alt p empty := by rw [← altL_mems _ ho, m1, hon, altL_snoc (mems_ne p), altL_mems p h]
      have hno : noK 1 (mems p) = mems p := List.filter_eq_self.2 fun m hmm => by
        have hx := nf_mems p h m hmm
        have : rk m ≠ 1 := fun e1 => hm (by rw [← nf_rk1 hx.1 e1]; exact hmm)
        simpa using this
      rw [e] at ho m2 ⊢
      have hf : fullT (.alt p empty) = p := by
        rw [full_eq ho m2]
        have : noK 1 (mems (.alt p empty)) = mems p := by
          show noK 1 (mems p ++ [empty]) = _
          rw [noK_app, hno]
          simp [noK, ee]
        rw [this, if_neg (mems_ne p), altL_mems p h]
      have e4 : rk (.alt p empty) = 4 := rfl
      unfold sStar
      rw [if_pos e4, hf]
      by_cases h4 : rk p = 4
      · rw [if_pos h4, if_pos h4]
        have : fullT p = p := by rw [full_eq h e0, hno, if_neg (mems_ne p), altL_mems p h]
        rw [this, if_pos h4]
      · rw [if_neg h4, if_neg h4]
end Go.Proofs.Abs

set_option maxRecDepth 100000
namespace Go.Proofs.Abs
open Go
inductive StarL (P : List Int → Prop) : List Int → Prop
  | nil : StarL P []
  | cons (u v : List Int) (hu : u ≠ []) (h : P u) (hv : StarL P v) : StarL P (u ++ v)
def Sem : Tr → List Int → Prop
  | .leaf n, l => takesT [n] l = true
  | .cat a b, l => ∃ u v, l = u ++ v ∧ Sem a u ∧ Sem b v
  | .alt a b, l => Sem a l ∨ Sem b l
  | .star a, l => StarL (Sem a) l
theorem lk_cat {a b : Tr} (h : OkS (.cat a b)) (l : List Int) : takesT (enc (.cat a b)) l = true ↔ ∃ u v, l = u ++ v ∧ takesT (enc a) u = true ∧ takesT (enc b) v = true := by
  obtain ⟨ha, hb⟩ := h.c
  have hs := h.2
  simp only [sz] at hs
  simp only [enc]
  rw [takes_cat ha.good hb.good (by rw [enc_len, enc_len]; exact hs)]
  unfold catF
  simp only [List.any_eq_true, List.mem_range, Bool.and_eq_true]
  constructor
  · rintro ⟨d, hd, h1, h2⟩
    exact ⟨l.take d, l.drop d, by simp, by rw [takes_take ha.good (by omega)]; exact h1, by rw [takes_drop hb.good (by omega)]; exact h2⟩
  · rintro ⟨u, v, rfl, h1, h2⟩
    have hl : u.length ≤ (u ++ v).length := by simp
    refine ⟨u.length, by simp; omega, ?_, ?_⟩
    · rw [← takes_take ha.good hl]; simpa using h1
    · rw [← takes_drop hb.good hl]; simpa using h2
theorem lk_alt {a b : Tr} (h : OkS (.alt a b)) (l : List Int) : takesT (enc (.alt a b)) l = true ↔ takesT (enc a) l = true ∨ takesT (enc b) l = true := by
  obtain ⟨ha, hb⟩ := h.l
  have hs := h.2
  simp only [sz] at hs
  simp only [enc]
  rw [takes_alt ha.good hb.good (by rw [enc_len, enc_len]; exact hs), Bool.or_eq_true]
theorem lk_star {a : Tr} (h : OkS (.star a)) (l : List Int) : takesT (enc (.star a)) l = true ↔ l = [] ∨ ∃ u v, u ≠ [] ∧ l = u ++ v ∧ takesT (enc a) u = true ∧ takesT (enc (.star a)) v = true := by
  have ha := h.s
  have hs := h.2
  simp only [sz] at hs
  have hl1 := enc_len a
  have gs := good_star ha.good (by rw [enc_len]; exact hs)
  simp only [enc]
  have e := takes_star (l := l) ha.good (by rw [enc_len]; exact hs)
  rw [e]
  unfold starF
  have hlen : (starT (enc a)).length - 1 = (enc a).length := by rw [starT_len]; rfl
  simp only [Bool.or_eq_true, decide_eq_true_eq, List.any_eq_true, List.mem_range, Bool.and_eq_true, List.length_eq_zero_iff]
  constructor
  · rintro (h | ⟨d, hd, h0, h1, h2⟩)
    · exact .inl h
    · refine .inr ⟨l.take d, l.drop d, fun e => ?_, by simp, by rw [takes_take ha.good (by omega)]; exact h1, by rw [takes_drop gs (by omega), hlen]; exact h2⟩
      have hlt : (l.take d).length = d := by rw [List.length_take]; omega
      rw [e] at hlt
      simp only [List.length_nil] at hlt
      omega
  · rintro (h | ⟨u, v, hu, rfl, h1, h2⟩)
    · exact .inl h
    · have hl : u.length ≤ (u ++ v).length := by simp
      have hu0 : 0 < u.length := List.length_pos_iff.2 hu
      refine .inr ⟨u.length, by simp; omega, hu0, ?_, ?_⟩
      · rw [← takes_take ha.good hl]; simpa using h1
      · rw [← hlen, ← takes_drop gs hl]; simpa using h2
theorem lk_sem : ∀ (x : Tr), OkS x → ∀ l, takesT (enc x) l = true ↔ Sem x l
  | .leaf n, h, l => Iff.rfl
  | .cat a b, h, l => by
    obtain ⟨ha, hb⟩ := h.c
    rw [lk_cat h]
    simp only [Sem]
    constructor
    · rintro ⟨u, v, e, h1, h2⟩; exact ⟨u, v, e, (lk_sem a ha u).1 h1, (lk_sem b hb v).1 h2⟩
    · rintro ⟨u, v, e, h1, h2⟩; exact ⟨u, v, e, (lk_sem a ha u).2 h1, (lk_sem b hb v).2 h2⟩
  | .alt a b, h, l => by
    obtain ⟨ha, hb⟩ := h.l
    rw [lk_alt h, lk_sem a ha l, lk_sem b hb l]
    rfl
  | .star a, h, l => by
    have ha := h.s
    have hs := lk_star h
    have to : ∀ n (l : List Int), l.length ≤ n → takesT (enc (.star a)) l = true → StarL (Sem a) l := by
      intro n
      induction n with
      | zero =>
        intro l hl _
        rw [List.length_eq_zero_iff.1 (Nat.le_zero.1 hl)]
        exact .nil
      | succ n ih =>
        intro l hl h1
        rcases (hs l).1 h1 with rfl | ⟨u, v, hu, rfl, h2, h3⟩
        · exact .nil
        · have hu0 : 0 < u.length := List.length_pos_iff.2 hu
          exact .cons u v hu ((lk_sem a ha u).1 h2) (ih v (by simp at hl; omega) h3)
    constructor
    · exact to l.length l (Nat.le_refl _)
    · intro h1
      simp only [Sem] at h1
      induction h1 with
      | nil => exact (hs []).2 (.inl rfl)
      | cons u v hu h2 h3 ih => exact (hs _).2 (.inr ⟨u, v, hu, rfl, (lk_sem a ha u).2 h2, ih⟩)
theorem sem_never (l : List Int) : Sem never l ↔ False := by
  have := takes_leaf 0 l
  have e : leafT 0 = [nodeK 0] := rfl
  rw [e] at this
  simp only [Sem]
  rw [this]; simp
theorem sem_empty (l : List Int) : Sem empty l ↔ l = [] := by
  have := takes_leaf 1 l
  have e : leafT 1 = [nodeK 1] := rfl
  rw [e] at this
  simp only [Sem]
  rw [this]; simp
theorem cat_empty_l (b : Tr) (l : List Int) : Sem (.cat empty b) l ↔ Sem b l := by
  simp only [Sem]
  constructor
  · rintro ⟨u, v, rfl, h1, h2⟩
    rw [show u = [] from (sem_empty u).1 h1]; exact h2
  · intro h; exact ⟨[], l, rfl, (sem_empty []).2 rfl, h⟩
theorem cat_empty_r (a : Tr) (l : List Int) : Sem (.cat a empty) l ↔ Sem a l := by
  simp only [Sem]
  constructor
  · rintro ⟨u, v, rfl, h1, h2⟩
    rw [show v = [] from (sem_empty v).1 h2, List.append_nil]; exact h1
  · intro h; exact ⟨l, [], by simp, h, (sem_empty []).2 rfl⟩
theorem cat_never_l (b : Tr) (l : List Int) : Sem (.cat never b) l ↔ False := by
  simp only [Sem, iff_false]
  rintro ⟨u, v, _, h1, _⟩
  exact (sem_never u).1 h1
theorem cat_never_r (a : Tr) (l : List Int) : Sem (.cat a never) l ↔ False := by
  simp only [Sem, iff_false]
  rintro ⟨u, v, _, _, h1⟩
  exact (sem_never v).1 h1
theorem sem_sCat : ∀ (b a : Tr), Ok a → Ok b → ∀ l, Sem (sCat a b) l ↔ Sem (.cat a b) l := by
  have triv : ∀ (b a : Tr), Ok a → Ok b → rk b ≠ 3 → ∀ l, Sem (sCat a b) l ↔ Sem (.cat a b) l := by
    intro b a ha hb h3 l
    by_cases a0 : rk a = 0
    · have : sCat a b = never := by cases b <;> simp [sCat, a0]
      rw [this, rk_never ha a0, cat_never_l, sem_never]
    by_cases b0 : rk b = 0
    · rw [rk_never hb b0, cat_never_r]
      have : sCat a never = never := by simp [sCat, nodeK]
      rw [this, sem_never]
    by_cases a1 : rk a = 1
    · have : sCat a b = b := by
        cases b with
        | leaf n => simp only [rk] at b0; simp [sCat, a1, b0]
        | cat => exact absurd rfl h3
        | alt => simp [sCat, a1]
        | star => simp [sCat, a1]
      rw [this, rk_empty ha a1, cat_empty_l]
    by_cases b1 : rk b = 1
    · rw [rk_empty hb b1, cat_empty_r]
      have : sCat a empty = a := by simp [sCat, nodeK, a0, a1]
      rw [this]
    · have : sCat a b = .cat a b := by
        cases b with
        | leaf n => simp only [rk] at b0 b1; simp [sCat, a0, a1, b0, b1]
        | cat => exact absurd rfl h3
        | alt => simp [sCat, a0, a1]
        | star => simp [sCat, a0, a1]
      rw [this]
  intro b
  induction b with
  | leaf n => intro a ha hb; exact triv _ a ha hb (by rcases leaf_kind hb.1 with e | e | e <;> simp [rk, e])
  | alt x y => intro a ha hb; exact triv _ a ha hb (by simp [rk])
  | star x => intro a ha hb; exact triv _ a ha hb (by simp [rk])
  | cat x y ihx ihy =>
    intro a ha hb l
    by_cases a0 : rk a = 0
    · have : sCat a (.cat x y) = never := by simp [sCat, a0]
      rw [this, rk_never ha a0, cat_never_l, sem_never]
    by_cases a1 : rk a = 1
    · have : sCat a (.cat x y) = .cat x y := by simp [sCat, a1]
      rw [this, rk_empty ha a1, cat_empty_l]
    have : sCat a (.cat x y) = sCat (sCat a x) y := by simp [sCat, a0, a1]
    rw [this, ihy _ (ok_sCat x a ha hb.1) hb.2]
    have h1 := ihx a ha hb.1
    simp only [Sem] at h1 ⊢
    constructor
    · rintro ⟨u, v, rfl, h2, h3⟩
      obtain ⟨u1, u2, rfl, h4, h5⟩ := (h1 u).1 h2
      exact ⟨u1, u2 ++ v, by simp, h4, u2, v, rfl, h5, h3⟩
    · rintro ⟨u, w, rfl, h2, v1, v2, rfl, h3, h4⟩
      exact ⟨u ++ v1, v2, by simp, (h1 _).2 ⟨u, v1, rfl, h2, h3⟩, h4⟩
theorem sem_mems : ∀ (a : Tr) (l : List Int), Sem a l ↔ ∃ m ∈ mems a, Sem m l
  | .leaf n, l => by simp [mems]
  | .cat a b, l => by simp [mems]
  | .star a, l => by simp [mems]
  | .alt a b, l => by
    simp only [Sem, mems, List.mem_append]
    rw [sem_mems a, sem_mems b]
    constructor
    · rintro (⟨m, h1, h2⟩ | ⟨m, h1, h2⟩)
      · exact ⟨m, .inl h1, h2⟩
      · exact ⟨m, .inr h1, h2⟩
    · rintro ⟨m, h1 | h1, h2⟩
      · exact .inl ⟨m, h1, h2⟩
      · exact .inr ⟨m, h1, h2⟩
theorem sem_alts : ∀ (r : List Tr) (a : Tr) (l : List Int), Sem (r.foldl .alt a) l ↔ Sem a l ∨ ∃ m ∈ r, Sem m l
  | [], a, l => by simp
  | y :: r, a, l => by
    rw [List.foldl_cons, sem_alts r]
    simp [Sem, or_assoc]
theorem sem_altL {L : List Tr} (h : L ≠ []) (l : List Int) : Sem (altL L) l ↔ ∃ m ∈ L, Sem m l := by
  cases L with
  | nil => exact absurd rfl h
  | cons x r => simp only [altL, sem_alts]; simp
theorem sem_once {L : List Tr} (hok : ∀ m ∈ L, Ok m) (l : List Int) : (∃ m ∈ onceT L, Sem m l) ↔ ∃ m ∈ L, Sem m l := by
  constructor
  · rintro ⟨m, h1, h2⟩; exact ⟨m, (onceT_sub L).subset h1, h2⟩
  · rintro ⟨m, h1, h2⟩
    by_cases h : hasStar L = true → rk m ≠ 1
    · exact ⟨m, mem_onceT.2 ⟨h1, h⟩, h2⟩
    · have hs : hasStar L = true := by
        by_cases hs : hasStar L = true
        · exact hs
        · exact absurd (fun h' => absurd h' hs) h
      have h3 : rk m = 1 := by
        by_cases h3 : rk m = 1
        · exact h3
        · exact absurd (fun _ => h3) h
      rw [rk_empty (hok m h1) h3] at h2
      have hl := (sem_empty l).1 h2
      subst hl
      unfold hasStar at hs
      rw [List.any_eq_true] at hs
      obtain ⟨t, ht, h5⟩ := hs
      simp only [decide_eq_true_eq] at h5
      refine ⟨t, mem_onceT.2 ⟨ht, fun _ => by omega⟩, ?_⟩
      obtain ⟨c, rfl⟩ := rk_star (hok t ht) h5
      exact .nil
theorem sem_sAlt {a b : Tr} (ha : Ok a) (hb : Ok b) (l : List Int) : Sem (sAlt a b) l ↔ Sem a l ∨ Sem b l := by
  unfold sAlt
  split
  · rename_i h; rw [rk_never ha h, sem_never]; simp
  split
  · rename_i h; rw [rk_never hb h, sem_never]; simp
  have hok : ∀ m ∈ mems a ++ mems b, Ok m := fun m hm => by
    rcases List.mem_append.1 hm with h | h
    · exact ok_mems a ha m h
    · exact ok_mems b hb m h
  rw [sem_altL (onceT_ne (by simp [mems_ne])), sem_once hok, sem_mems a, sem_mems b]
  simp only [List.mem_append]
  constructor
  · rintro ⟨m, h1 | h1, h2⟩
    · exact .inl ⟨m, h1, h2⟩
    · exact .inr ⟨m, h1, h2⟩
  · rintro (⟨m, h1, h2⟩ | ⟨m, h1, h2⟩)
    · exact ⟨m, .inl h1, h2⟩
    · exact ⟨m, .inr h1, h2⟩
theorem star_congr {P Q : List Int → Prop} (h : ∀ u, u ≠ [] → (P u ↔ Q u)) (l : List Int) : StarL P l ↔ StarL Q l := by
  constructor
  · intro hs
    induction hs with
    | nil => exact .nil
    | cons u v hu h1 h2 ih => exact .cons u v hu ((h u hu).1 h1) ih
  · intro hs
    induction hs with
    | nil => exact .nil
    | cons u v hu h1 h2 ih => exact .cons u v hu ((h u hu).2 h1) ih
theorem star_none {P : List Int → Prop} (h : ∀ u, u ≠ [] → ¬ P u) (l : List Int) : StarL P l ↔ l = [] := by
  constructor
  · intro hs
    cases hs with
    | nil => rfl
    | cons u v hu h1 h2 => exact absurd h1 (h u hu)
  · rintro rfl; exact .nil
theorem star_app {P : List Int → Prop} {u v : List Int} (h1 : StarL P u) (h2 : StarL P v) : StarL P (u ++ v) := by
  induction h1 with
  | nil => exact h2
  | cons a b ha h3 h4 ih => rw [List.append_assoc]; exact .cons a _ ha h3 ih
theorem star_star (P : List Int → Prop) (l : List Int) : StarL (StarL P) l ↔ StarL P l := by
  constructor
  · intro hs
    induction hs with
    | nil => exact .nil
    | cons u v hu h1 h2 ih => exact star_app h1 ih
  · intro hs
    by_cases hl : l = []
    · subst hl; exact .nil
    · have := StarL.cons l [] hl hs .nil
      rwa [List.append_nil] at this
theorem sem_star1 {a : Tr} (ha : Ok a) (l : List Int) : Sem (star1 a) l ↔ StarL (Sem a) l := by
  unfold star1
  split
  · rename_i h
    rw [sem_empty]
    refine (star_none (fun u hu h1 => ?_) l).symm
    rcases h with h | h
    · rw [rk_never ha h] at h1; exact (sem_never u).1 h1
    · rw [rk_empty ha h] at h1; exact hu ((sem_empty u).1 h1)
  split
  · rename_i h
    obtain ⟨c, rfl⟩ := rk_star ha h
    simp only [Sem]
    exact (star_star _ l).symm
  · rfl
theorem sem_fold : ∀ (r : List Tr) (a : Tr), Ok a → (∀ m ∈ r, Ok m) → ∀ l, Sem (r.foldl sAlt a) l ↔ Sem a l ∨ ∃ m ∈ r, Sem m l
  | [], a, _, _, l => by simp
  | y :: r, a, ha, hr, l => by
    have hy := hr y (by simp)
    rw [List.foldl_cons, sem_fold r _ (ok_sAlt ha hy) (fun m hm => hr m (by simp [hm])), sem_sAlt ha hy]
    simp [or_assoc]
theorem sem_full {a : Tr} (ha : Ok a) (u : List Int) (hu : u ≠ []) : Sem (fullT a) u ↔ Sem a u := by
  have key : (∃ m ∈ noK 1 (mems a), Sem m u) ↔ Sem a u := by
    rw [sem_mems a]
    constructor
    · rintro ⟨m, h1, h2⟩; exact ⟨m, (mem_noK.1 h1).1, h2⟩
    · rintro ⟨m, h1, h2⟩
      refine ⟨m, mem_noK.2 ⟨h1, fun h => ?_⟩, h2⟩
      rw [rk_empty (ok_mems a ha m h1) h] at h2
      exact hu ((sem_empty u).1 h2)
  have hok : ∀ m ∈ noK 1 (mems a), Ok m := fun m hm => ok_mems a ha m (mem_noK.1 hm).1
  rw [← key]
  unfold fullT
  cases e : noK 1 (mems a) with
  | nil => simp only [sem_empty, hu]; simp
  | cons x r =>
    rw [e] at hok
    simp only
    rw [sem_fold r x (hok x (by simp)) (fun m hm => hok m (by simp [hm]))]
    simp
theorem sem_sStar {a : Tr} (ha : Ok a) (l : List Int) : Sem (sStar a) l ↔ StarL (Sem a) l := by
  have hf := ok_fullT ha
  have hc := star_congr (sem_full ha) l
  unfold sStar
  split
  · split
    · exact hc
    · rw [sem_star1 hf]; exact hc
  · exact sem_star1 ha l
theorem sem_sClean : ∀ a, Ok a → ∀ l, Sem (sClean a) l ↔ Sem a l
  | .leaf n, h, l => Iff.rfl
  | .cat a b, h, l => by
    simp only [sClean]
    rw [sem_sCat _ _ (ok_sClean a h.1) (ok_sClean b h.2)]
    simp only [Sem]
    constructor
    · rintro ⟨u, v, e, h1, h2⟩; exact ⟨u, v, e, (sem_sClean a h.1 u).1 h1, (sem_sClean b h.2 v).1 h2⟩
    · rintro ⟨u, v, e, h1, h2⟩; exact ⟨u, v, e, (sem_sClean a h.1 u).2 h1, (sem_sClean b h.2 v).2 h2⟩
  | .alt a b, h, l => by
    simp only [sClean]
    rw [sem_sAlt (ok_sClean a h.1) (ok_sClean b h.2), sem_sClean a h.1, sem_sClean b h.2]
    rfl
  | .star a, h, l => by
    simp only [sClean]
    rw [sem_sStar (ok_sClean a h)]
    exact star_congr (fun u _ => sem_sClean a h u) l
theorem takes_eq {x y : Tr} (hx : OkS x) (hy : OkS y) (h : ∀ l, Sem x l ↔ Sem y l) (l : List Int) : takesT (enc x) l = takesT (enc y) l := by
  rw [Bool.eq_iff_iff, lk_sem x hx, lk_sem y hy, h]
end Go.Proofs.Abs

set_option maxRecDepth 100000
set_option maxHeartbeats 4000000
namespace Go.Proofs.Abs
open Go
theorem run59 (s : List (Int × Int)) (v : Int) (hs : s.length ≤ 9223372036854775807) : cwp y1 19 [] [(AV.list 2 (List.map (fun x => [AV.int .i64 x.1, AV.int .i64 x.2]) (s))), .int .i64 v] [] (fun r H => r = .bool (hasS s v) ∧ H = []) := by
  refine run_fn (fn := fn59) rfl rfl ?_
  simp only [fn59_body, c59, D0, SP0, seval, -Int.reduceNatCast']
  refine lg_rule (fun j e H => e = [(0, (AV.list 2 (List.map (fun x => [AV.int .i64 x.1, AV.int .i64 x.2]) (s)))), (1, .int .i64 v), (4, .bool false), (5, .int .i64 j)] ∧ H = [[]] ∧ j ≤ s.length ∧ ∀ i, i < j → inR v (s.getD i (0, 0)) = false) s.length ?_ ?_
  · exact ⟨rfl, rfl, by simp, by simp⟩
  rintro j e H ⟨rfl, rfl, hj, hi⟩
  simp only [D0, SP0, seval, -Int.reduceNatCast']
  by_cases h : j < s.length
  · have h' : (j : Int) < (s.length : Int) := by omega
    have hp := wrapp (j := j) (by omega)
    have hg := map_get (f := fun x : Int × Int => [AV.int .i64 x.1, AV.int .i64 x.2]) h (0, 0)
    have step : inR v (s.getD j (0, 0)) = false → ∀ i, i < j + 1 → inR v (s.getD i (0, 0)) = false := fun h1 i h2 => by
      by_cases e : i = j
      · rw [e]; exact h1
      · exact hi i (by omega)
    have yes : inR v (s.getD j (0, 0)) = true → hasS s v = (isS v && goodS s) := fun h1 => by
      unfold hasS
      rw [any_true h h1, Bool.and_true, Bool.and_comm]
    clear hi
    generalize s.getD j (0, 0) = x at hg step yes
    obtain ⟨x, y⟩ := x
    by_cases h1 : x ≤ v
    · by_cases h2 : v ≤ y
      · have hy := yes (by simp [inR, h1, h2])
        clear yes step
        by_cases c1 : isS v = true
        · rw [c1, Bool.true_and] at hy
          simp only [D0, SP0, seval, -Int.reduceNatCast', @use_all y1 18 k66.ora rfl, e66, @use_all y1 36 k57.ora rfl, e57, hs, h', hg, h1, h2, c1, decide_true, Int.natCast_nonneg, Int.toNat_natCast]
          simp only [F1, SF0, SP0, seval, -Int.reduceNatCast', fn59_res, fn59_keep, hy]
        · have c1' : isS v = false := by simpa using c1
          rw [c1', Bool.false_and] at hy
          simp only [D0, SP0, seval, -Int.reduceNatCast', @use_all y1 18 k66.ora rfl, e66, @use_all y1 36 k57.ora rfl, e57, hs, h', hg, h1, h2, c1', decide_true, Int.natCast_nonneg, Int.toNat_natCast]
          simp only [F1, SF0, SP0, seval, -Int.reduceNatCast', fn59_res, fn59_keep, hy]
      · have st := step (by simp [inR, h2])
        clear yes step
        simp only [D0, SP0, seval, -Int.reduceNatCast', h', hg, h1, h2, hp, decide_true, decide_false, Int.natCast_nonneg, Int.toNat_natCast]
        simp only [F1, SF0, SP0, seval, -Int.reduceNatCast']
        exact ⟨h, h, st⟩
    · have st := step (by simp [inR, h1])
      clear yes step
      simp only [D0, SP0, seval, -Int.reduceNatCast', h', hg, h1, hp, decide_true, decide_false, Int.natCast_nonneg, Int.toNat_natCast]
      simp only [F1, SF0, SP0, seval, -Int.reduceNatCast']
      exact ⟨h, h, st⟩
  · have h' : ¬ (j : Int) < (s.length : Int) := by omega
    have he : hasS s v = false := by
      unfold hasS
      rw [any_false fun i h1 => hi i (by omega), Bool.and_false]
    simp only [D0, SP0, seval, -Int.reduceNatCast', h', decide_false]
    refine .inr ⟨by simp, ?_⟩
    simp only [F1, SF0, SP0, seval, -Int.reduceNatCast', fn59_res, fn59_keep, he]
noncomputable def k59 : Kon ((List (Int × Int)) × Int) := ⟨fun x => x.1.length ≤ 9223372036854775807, fun x => [(AV.list 2 (List.map (fun x => [AV.int .i64 x.1, AV.int .i64 x.2]) (x.1))), .int .i64 x.2], fun x => .bool (hasS x.1 x.2)⟩
theorem e59 (s : List (Int × Int)) (v : Int) (hd : s.length ≤ 9223372036854775807) (q0 : Id) (H0 : Heap) : k59.ora q0 ([(AV.list 2 (List.map (fun x => [AV.int .i64 x.1, AV.int .i64 x.2]) (s))), .int .i64 v]) H0 = some (.bool (hasS s v), H0) := k59.eq (by dsimp only [k59]; rintro ⟨a, m⟩ ⟨b, n⟩ h; simp only [List.cons.injEq, AV.int.injEq, and_true, true_and] at h; rw [eSet_inj (a := a) (b := b) h.1, h.2]) (s, v) hd q0 H0
theorem ook59 : OraOK Tryz.prog (19 % 100000) k59.ora := k59.ok orders y1_ok (fun x hd => by simp [k59, PU]) (fun x hd => by simp [k59, PU]) (fun x hd => run59 x.1 x.2 hd)

end Go.Proofs.Abs
