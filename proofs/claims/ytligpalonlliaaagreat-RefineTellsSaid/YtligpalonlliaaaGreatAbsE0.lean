/- A part of a proof: the text that states the row tells what is proved. No condition is laid on anything. -/
import Derived.Test.YtligpalonlliaaaGreatAbsS
set_option linter.all false
set_option linter.constructorNameAsVariable false
set_option linter.defProp false
set_option linter.unusedVariables false
set_option linter.unusedSimpArgs false
namespace Go.Proofs.Abs
open Go

/-! ### Calls of contracts, ready for 'simp' -/
section
variable {ft : FT} {α : Type} {dom : α → Prop} {enc : α → List AV} {out : α → AV} {f : Nat}
theorem cg_has (h : ft f = some (.ora (oraF dom enc out))) (inj : ∀ a b, enc a = enc b → a = b) {a : α} (ha : dom a) (q : Id) (H : Heap) (d : Option Nat) (r : List AIn) (k : Nat) (drop : List Nat) (ks : List Kt) (Q : Fin) (s : St) :
    cg ft f q (enc a) H d r k drop ks Q s = rg ft r k drop ks Q { s with env := putd s.env d (out a), heap := H, k := s.k + 1 } := by
  rw [cg_spec h, oraF_eq inj ha, cgs_some]
theorem dcg_has (h : ft f = some (.ora (oraF dom enc out))) (inj : ∀ a b, enc a = enc b → a = b) {a : α} (ha : dom a) (q : Id) (H : Heap) (i : AIn) (r : List AIn) (k : Nat) (l : List Rec) (drop : List Nat) (ks : List Kt) (Q : Fin) (s : St) :
    dcg ft f q (enc a) H i r k l drop ks Q s = dn ft (dnext (clsOf i.i s.env) (out a) s { s with heap := H, k := s.k + 1 }) i r k l drop ks Q s := by
  rw [dcg_spec h, oraF_eq inj ha, dcgs_some]
end
theorem fz_tuple2 (H : Heap) (k : IntKind) (n : Int) (b : Bool) : fz H (.tuple [.int k n, .bool b]) = some (.tuple [.int k n, .bool b], H) := rfl
theorem fz_agg2 (H : Heap) (k k' : IntKind) (n m : Int) : fz H (.agg [.int k n, .int k' m]) = some (.agg [.int k n, .int k' m], H) := rfl
theorem fz_aggb (H : Heap) (k : IntKind) (n : Int) (b : Bool) : fz H (.agg [.int k n, .bool b]) = some (.agg [.int k n, .bool b], H) := rfl
theorem fz_nd (H : Heap) (n : Nd) : fz H (.agg (eNd n)) = some (.agg (eNd n), H) := rfl
theorem wrap32 {n : Int} (h1 : -2147483648 ≤ n) (h2 : n ≤ 2147483647) : IntKind.i32.wrap n = n := by
  simp only [IntKind.wrap, IntKind.bits, IntKind.signed]
  simp
  split <;> omega
theorem beqH_self : ∀ H : Heap, beqH H H = true := by
  have hA : ∀ (n : Nat), (∀ a : AV, SizeOf.sizeOf a < n → beqA a a = true) ∧ (∀ l : List AV, SizeOf.sizeOf l < n → beqL l l = true) ∧ (∀ l : List (List AV), SizeOf.sizeOf l < n → beqLL l l = true) := by
    intro n
    induction n with
    | zero => exact ⟨fun a h => by omega, fun a h => by omega, fun a h => by omega⟩
    | succ n ih =>
      obtain ⟨i1, i2, i3⟩ := ih
      refine ⟨fun a h => ?_, fun l h => ?_, fun l h => ?_⟩
      · cases a <;> simp only [beqA, decide_true, beq_self_eq_true, Bool.and_self, Bool.true_and] <;> first | exact i2 _ (by simp at h; omega) | exact i3 _ (by simp at h; omega) | exact i1 _ (by simp at h; omega)
      · cases l with
        | nil => rfl
        | cons a r =>
          simp only [beqL, Bool.and_eq_true]
          exact ⟨i1 _ (by simp at h; omega), i2 _ (by simp at h; omega)⟩
      · cases l with
        | nil => rfl
        | cons a r =>
          simp only [beqLL, Bool.and_eq_true]
          exact ⟨i2 _ (by simp at h; omega), i3 _ (by simp at h; omega)⟩
  have hE : ∀ l : List (AV × AV), beqE l l = true := by
    intro l
    induction l with
    | nil => rfl
    | cons a r ih =>
      obtain ⟨a, b⟩ := a
      simp only [beqE, Bool.and_eq_true]
      exact ⟨⟨(hA _).1 a (Nat.lt_succ_self _), (hA _).1 b (Nat.lt_succ_self _)⟩, ih⟩
  have hO : ∀ o : AObj, beqO o o = true := by
    intro o
    cases o with
    | row w f e s r =>
      simp only [beqO, beq_self_eq_true, Bool.and_self, Bool.true_and]
      exact (hA _).2.2 r (Nat.lt_succ_self _)
    | box c => exact (hA _).2.1 c (Nat.lt_succ_self _)
    | map e => exact hE e
  have hF : ∀ f : Fr, beqF f f = true := by
    intro f
    induction f with
    | nil => rfl
    | cons a r ih =>
      obtain ⟨i, o⟩ := a
      simp only [beqF, beq_self_eq_true, Bool.true_and, Bool.and_eq_true]
      exact ⟨hO o, ih⟩
  intro H
  induction H with
  | nil => rfl
  | cons f r ih =>
    simp only [beqH, Bool.and_eq_true]
    exact ⟨hF f, ih⟩
theorem toList_loop (b : ByteArray) : ∀ (d i : Nat) (r : List UInt8), b.size - i ≤ d → ByteArray.toList.loop b i r = r.reverse ++ b.data.toList.drop i
  | 0, i, r, h => by
    unfold ByteArray.toList.loop
    rw [if_neg (by omega), List.drop_eq_nil_of_le (by have : b.data.toList.length = b.size := rfl; omega), List.append_nil]
  | d + 1, i, r, h => by
    unfold ByteArray.toList.loop
    by_cases hi : i < b.size
    · have hl : i < b.data.toList.length := hi
      rw [if_pos hi, toList_loop b d (i + 1) _ (by omega), List.drop_eq_getElem_cons hl]
      have e : b.get! i = b.data.toList[i] := by
        have h2 : i < b.data.size := hi
        show b.data[i]! = _
        rw [getElem!_pos b.data i h2]
        simp
      rw [e]
      simp
    · rw [if_neg hi, List.drop_eq_nil_of_le (by have : b.data.toList.length = b.size := rfl; omega), List.append_nil]
theorem toList_eq (b : ByteArray) : b.toList = b.data.toList := by
  unfold ByteArray.toList
  rw [toList_loop b b.size 0 [] (by omega)]
  simp
theorem bytes_beq (a b : ByteArray) : (a.toList == b.toList) = decide (a = b) := by
  rw [toList_eq, toList_eq, Bool.eq_iff_iff]
  simp only [beq_iff_eq, decide_eq_true_eq]
  constructor
  · intro h
    cases a; cases b
    simp only [Array.toList_inj] at h
    rw [h]
  · rintro rfl; rfl
theorem bytes_empty (a : ByteArray) : (a = ⟨#[]⟩) ↔ a.size = 0 := by
  constructor
  · rintro rfl; rfl
  · intro h
    cases a with
    | mk d =>
      have : d.size = 0 := h
      rw [Array.eq_empty_of_size_eq_zero this]
theorem astr_eql (a b : ByteArray) : astr .eql a b = some (.bool (decide (a = b))) := by
  simp only [astr, bytes_beq]
theorem astr_neq (a b : ByteArray) : astr .neq a b = some (.bool (!decide (a = b))) := by
  simp only [astr, bytes_beq]
theorem pure_undef : Pure .undef = True := eq_true .undef
theorem pure_bool (b : Bool) : Pure (.bool b) = True := eq_true (.bool b)
theorem pure_int (k : IntKind) (n : Int) : Pure (.int k n) = True := eq_true (.int k n)
theorem pure_str (s : ByteArray) : Pure (.str s) = True := eq_true (.str s)
theorem pure_nils : Pure .nils = True := eq_true .nils
theorem pure_agg (cs : List AV) : Pure (.agg cs) = ∀ a ∈ cs, Pure a := propext ⟨fun h a ha => by
  cases h with
  | agg _ h =>
    obtain ⟨j, hj⟩ := List.getElem?_of_mem ha
    exact h j a hj, fun h => .agg _ fun j av e => h av (List.mem_of_getElem? e)⟩
theorem pure_tuple (cs : List AV) : Pure (.tuple cs) = ∀ a ∈ cs, Pure a := propext ⟨fun h a ha => by
  cases h with
  | tuple _ h =>
    obtain ⟨j, hj⟩ := List.getElem?_of_mem ha
    exact h j a hj, fun h => .tuple _ fun j av e => h av (List.mem_of_getElem? e)⟩
theorem pure_list (z : Nat) (rows : List (List AV)) : Pure (.list z rows) = ∀ r ∈ rows, ∀ a ∈ r, Pure a := propext ⟨fun h r hr a ha => by
  cases h with
  | list _ _ h =>
    obtain ⟨j, hj⟩ := List.getElem?_of_mem (List.mem_flatten.2 ⟨r, hr, ha⟩)
    exact h j a hj, fun h => .list _ _ (pure_flat h)⟩
theorem pureL_eNd (n : Nd) : (∀ a ∈ eNd n, Pure a) = True := eq_true (pure_eNd n)
theorem fz_nd5 (H : Heap) (k1 k2 k3 : IntKind) (a b c : Int) (z : Nat) (r : List (List AV)) (s : ByteArray) : fz H (.agg [.int k1 a, .int k2 b, .int k3 c, .list z r, .str s]) = some (.agg [.int k1 a, .int k2 b, .int k3 c, .list z r, .str s], H) := rfl
theorem map_get {α : Type} [Inhabited α] {f : α → List AV} {l : List α} {j : Nat} (h : j < l.length) (z : α) : (l.map f)[j]? = some (f (l.getD j z)) := by
  rw [List.getElem?_map, List.getD_eq_getElem?_getD, List.getElem?_eq_getElem h]
  rfl
theorem wrapm {j : Nat} (h : 0 < j) (h2 : j ≤ 9223372036854775807) : IntKind.i64.wrap ((j : Int) - 1) = ((j - 1 : Nat) : Int) := by
  rw [wrap64 (by omega) (by omega)]
  omega
theorem wrapp {j : Nat} (h2 : j < 9223372036854775807) : IntKind.i64.wrap ((j : Int) + 1) = ((j + 1 : Nat) : Int) := by
  rw [wrap64 (by omega) (by omega)]
  omega
theorem pure_setL (s : List (Int × Int)) : Pure (.list 2 (List.map (fun x => [AV.int .i64 x.1, AV.int .i64 x.2]) s)) = True := eq_true (pure_eSet s)
theorem pure_treeL (t : List Nd) : Pure (.list 5 (List.map eNd t)) = True := eq_true (pure_eTree t)
theorem pure_rowL (l : List Int) : Pure (.list 1 (List.map (fun x => [AV.int .i64 x]) l)) = True := eq_true (pure_eRow l)
def eNats (l : List Nat) : List (List AV) := l.map fun x : Nat => [AV.int .i64 (x : Int)]
theorem eNats_len (l : List Nat) : (eNats l).length = l.length := by simp [eNats]
theorem eNats_get {l : List Nat} {i : Nat} (h : i < l.length) : (eNats l)[i]? = some [AV.int .i64 ((l.getD i 0 : Nat) : Int)] := by
  unfold eNats
  rw [List.getElem?_map, List.getD_eq_getElem?_getD, List.getElem?_eq_getElem h]
  rfl
theorem eNats_set (l : List Nat) (i v : Nat) : (eNats l).set i [AV.int .i64 (v : Int)] = eNats (l.set i v) := by
  unfold eNats
  rw [List.map_set]
theorem eNats_app (l m : List Nat) : eNats l ++ eNats m = eNats (l ++ m) := by simp [eNats]
theorem eNats_rep (n : Nat) : List.replicate n [AV.int .i64 0] = eNats (List.replicate n 0) := by simp [eNats]
theorem eNats_inj {a b : List Nat} (h : eNats a = eNats b) : a = b := by
  refine map_inj' ?_ h
  intro x y e
  simp at e
  omega
theorem pure_nats (l : List Nat) : Pure (.list 1 (eNats l)) = True := by
  unfold eNats
  have := pure_eRow (l.map fun x : Nat => (x : Int))
  unfold eRow at this
  rw [List.map_map] at this
  exact eq_true this
theorem eNats_nil : eNats [] = [] := rfl
abbrev N5 := Int × Int × Int × List (Int × Int) × ByteArray
theorem ndInj5 : ∀ x y : N5, [AV.agg [AV.int .i64 x.1, AV.int .i64 x.2.1, AV.int .i64 x.2.2.1, (AV.list 2 (List.map (fun x => [AV.int .i64 x.1, AV.int .i64 x.2]) x.2.2.2.1)), AV.str x.2.2.2.2]] = [AV.agg [AV.int .i64 y.1, AV.int .i64 y.2.1, AV.int .i64 y.2.2.1, (AV.list 2 (List.map (fun x => [AV.int .i64 x.1, AV.int .i64 x.2]) y.2.2.2.1)), AV.str y.2.2.2.2]] → x = y := by
  rintro ⟨k, a, b, c, z⟩ ⟨k', a', b', c', z'⟩ h
  simp only [List.cons.injEq, AV.agg.injEq, and_true] at h
  have h2 := @eNd_inj ⟨k, a, b, c, z⟩ ⟨k', a', b', c', z'⟩ (by
    simp only [eNd, eSet, List.cons.injEq, and_true]
    exact h)
  injection h2 with h1 h2 h3 h4 h5
  rw [h1, h2, h3, h4, h5]
theorem eNats_snoc (l : List Nat) (v : Nat) : eNats l ++ [[AV.int .i64 (v : Int)]] = eNats (l ++ [v]) := by simp [eNats]
end Go.Proofs.Abs
