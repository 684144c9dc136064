/- A part of a proof: the text that states the row tells what is proved. No condition is laid on anything. -/
import Derived.Test.YtligpalonlliaaaGreatAbsE0
set_option linter.all false
set_option linter.constructorNameAsVariable false
set_option linter.defProp false
set_option linter.unusedVariables false
set_option linter.unusedSimpArgs false
namespace Go.Proofs.Abs
open Go Go.RowKit
/-! ### Contracts of a function in a way of its own; contracts whose result is a slice of its own -/
theorem lift2 {P : Program} {ft : FT} (hmo : P.follows .mixedOrders = true) (hft : FTOK P ft) {f : Nat} {α : Type} {dom : α → Prop} {enc : α → List AV} {out : α → AV}
    (hin : ∀ a, dom a → ∀ x ∈ enc a, Pure x) (hout : ∀ a, dom a → Pure (out a)) (hrun : ∀ a, dom a → ∃ n, acall ft n f [] (enc a) [] = some (out a, [])) : OraOK P (f % 100000) (oraF dom enc out) := by
  intro q args H r H' h
  unfold oraF at h
  split at h
  · rename_i hex
    simp only [Option.some.injEq, Prod.mk.injEq] at h
    obtain ⟨rfl, rfl⟩ := h
    obtain ⟨hd, he⟩ := Classical.choose_spec hex
    generalize Classical.choose hex = a at hd he
    subst he
    obtain ⟨n, hn⟩ := hrun a hd
    obtain ⟨h1, h2⟩ := (sound P ft hmo hft n).2 f [] (enc a) [] _ _ hn
    refine ⟨h1, fun C vs hH hr hav hl => ?_⟩
    have := h2 (hide C) vs rfl (hide_rep hr) (fun _ _ => trivial) (hl.pure (hin a hd) fun _ _ _ h => hide_fro h)
    refine this.mono ?_
    rintro e w' ⟨v, C2, rfl, rfl, hH2, hr2, hv, hx, _⟩
    exact ⟨v, { C with w := C2.w }, rfl, rfl, hH, hide_hrep hr hx, hv.pure (hout a hd) fun _ _ _ h => hide_back hx h, hide_ext hr hx, fun _ h _ => h⟩
  · cases h
theorem upd_ok2 {P : Program} {ft : FT} {f : Nat} (h : FTOK P ft) {spec : Id → List AV → Heap → Option (AV × Heap)} (hs : OraOK P (f % 100000) spec) : FTOK P (upd ft f spec) := by
  intro n x hx
  unfold upd at hx
  split at hx
  · rename_i e
    subst e
    injection hx with hx
    subst hx
    exact hs
  · exact h n x hx
theorem cwp_runO {ft : FT} {f : Nat} {args : List AV} {elem sz : Nat} {rows : List (List AV)} (h : cwp ft f [] args [] fun v H => ∃ id, v = .own id rows.length ∧ H = [[(id, .row true true elem sz rows)]]) :
    ∃ n id, acall ft n f [] args [] = some (.own id rows.length, [[(id, .row true true elem sz rows)]]) := by
  obtain ⟨v, H2, e, id, rfl, rfl⟩ := h
  obtain ⟨n, hn⟩ := e.get
  exact ⟨n, id, hn⟩
section
variable {ft : FT} {α : Type} {dom : α → Prop} {enc : α → List AV} {elem sz : Nat} {out : α → List (List AV)} {f : Nat}
theorem cg_hasO (h : ft f = some (.ora (oraO dom enc elem sz out))) (inj : ∀ a b, enc a = enc b → a = b) {a : α} (ha : dom a) (q : Id) (H : Heap) (d : Option Nat) (r : List AIn) (k : Nat) (drop : List Nat) (ks : List Kt) (Q : Fin) (s : St) :
    cg ft f q (enc a) H d r k drop ks Q s = rg ft r k drop ks Q { s with env := putd s.env d (.own (q ++ [0]) (out a).length), heap := hadd H (q ++ [0]) (.row true true elem sz (out a)), k := s.k + 1 } := by
  rw [cg_spec h, oraO_eq inj ha, cgs_some]
theorem dcg_hasO (h : ft f = some (.ora (oraO dom enc elem sz out))) (inj : ∀ a b, enc a = enc b → a = b) {a : α} (ha : dom a) (q : Id) (H : Heap) (i : AIn) (r : List AIn) (k : Nat) (l : List Rec) (drop : List Nat) (ks : List Kt) (Q : Fin) (s : St) :
    dcg ft f q (enc a) H i r k l drop ks Q s = dn ft (dnext (clsOf i.i s.env) (.own (q ++ [0]) (out a).length) s { s with heap := hadd H (q ++ [0]) (.row true true elem sz (out a)), k := s.k + 1 }) i r k l drop ks Q s := by
  rw [dcg_spec h, oraO_eq inj ha, dcgs_some]
end
theorem pureL_setL (s : List (Int × Int)) : (∀ r ∈ List.map (fun x : Int × Int => [AV.int .i64 x.1, AV.int .i64 x.2]) s, ∀ a ∈ r, Pure a) = True := by
  have := pure_setL s
  rw [pure_list] at this
  exact this
theorem pureL_treeL (t : List Nd) : (∀ r ∈ List.map eNd t, ∀ a ∈ r, Pure a) = True := by
  have := pure_treeL t
  rw [pure_list] at this
  exact this
theorem pure_func0 (f : Nat) : Pure (.func f []) = True := eq_true (.func f [] fun j av e => by simp at e)
theorem cg_use {ft : FT} {f : Nat} {q : Id} {a : List AV} {H : Heap} {K : AV → Heap → Prop} {d : Option Nat} {r : List AIn} {k : Nat} {drop : List Nat} {ks : List Kt} {Q : Fin} {s : St} (h : cwp ft f q a H K)
    (hk : ∀ v H', K v H' → rg ft r k drop ks Q { s with env := putd s.env d v, heap := H', k := s.k + 1 }) : cg ft f q a H d r k drop ks Q s := by
  obtain ⟨v, H', e, hK⟩ := h
  exact ⟨v, H', e, hk v H' hK⟩
theorem lrc_x (cs : List Nat) (i : Nat) (p : List Nat) (m : Id) (l : List Rec) : lrc cs i (⟨.x, p, m⟩ :: l) = false := rfl
theorem fset_fset : ∀ (f : Fr) (id : Id) (a b : AObj), fset (fset f id a) id b = fset f id b
  | [], _, _, _ => rfl
  | (i, o) :: r, id, a, b => by
    by_cases h : i = id
    · simp [fset, h]
    · simp [fset, h, fset_fset r id a b]
theorem hset_hset : ∀ (H : Heap) (id : Id) (a b : AObj), hset (hset H id a) id b = hset H id b
  | [], _, _, _ => rfl
  | f :: r, id, a, b => by
    cases e : fget f id with
    | none =>
      have h1 : hset (f :: r) id a = f :: hset r id a := by simp [hset, e]
      have h2 : hset (f :: r) id b = f :: hset r id b := by simp [hset, e]
      have h3 : hset (f :: hset r id a) id b = f :: hset (hset r id a) id b := by simp [hset, e]
      rw [h1, h2, h3, hset_hset r id a b]
    | some o =>
      have h1 : hset (f :: r) id a = fset f id a :: r := by simp [hset, e]
      have h2 : hset (f :: r) id b = fset f id b :: r := by simp [hset, e]
      have e2 : fget (fset f id a) id = some a := by rw [fget_fset]; simp [e]
      have h3 : hset (fset f id a :: r) id b = fset (fset f id a) id b :: r := by simp [hset, e2]
      rw [h1, h2, h3, fset_fset]
end Go.Proofs.Abs
