/- A part of a proof: the text that states the row tells what is proved. No condition is laid on anything. -/
import Derived.Test.YthknebhggdhhfaaGreatDoorAbsGg
import Derived.Test.YthknebhggdhhfaaGreatDoorAbsGi
import Derived.Test.YthknebhggdhhfaaGreatDoorAbsGh
set_option linter.all false
set_option linter.constructorNameAsVariable false
set_option linter.defProp false
set_option linter.unusedVariables false
set_option linter.unusedSimpArgs false
set_option maxRecDepth 100000
set_option maxHeartbeats 16000000
namespace Go.Proofs.Abs
open Go
def smallU (c : UInt8) : Bool := decide (97 ≤ c.toNat) && decide (c.toNat ≤ 122)
def digitU (c : UInt8) : Bool := decide (48 ≤ c.toNat) && decide (c.toNat ≤ 57)
def byteAt (z : ByteArray) (i : Nat) : UInt8 := z.data.toList.getD i 0
def innerU (c : UInt8) : Bool := smallU c || digitU c || decide (c.toNat = 95)
def resW : List ByteArray := [⟨#[99, 108, 97, 115, 115]⟩, ⟨#[101, 108, 115, 101]⟩, ⟨#[97, 110, 121]⟩, ⟨#[101, 109, 112, 116, 121]⟩, ⟨#[110, 101, 118, 101, 114]⟩]
def wordB (z : ByteArray) : Bool := decide (1 ≤ z.size) && decide (z.size ≤ 12) && smallU (byteAt z 0) && (List.range z.size).all fun i => innerU (byteAt z i)
def isNameB (z : ByteArray) : Bool := wordB z && !(resW.any fun w => decide (z = w))
theorem u8lt (c : UInt8) : c.toNat < 256 := c.toNat_lt
theorem u8eq (c : UInt8) (n : Nat) : ((c.toNat : Int) == (n : Int)) = decide (c.toNat = n) := by
  by_cases h : c.toNat = n
  · simp [h]
  · have : ¬ (c.toNat : Int) = (n : Int) := by omega
    simp [h, this]
theorem u8i32 (c : UInt8) : IntKind.i32.wrap (c.toNat : Int) = (c.toNat : Int) := by
  have := u8lt c
  simp only [IntKind.wrap, IntKind.bits, IntKind.signed]
  simp
  split <;> omega
theorem u8Inj {a b : UInt8} (h : [AV.int .u8 (a.toNat : Int)] = [AV.int .u8 (b.toNat : Int)]) : a = b := by
  simp only [List.cons.injEq, AV.int.injEq, and_true, true_and] at h
  exact UInt8.toNat_inj.1 (by omega)
theorem run1268 (c : UInt8) : cwp ft 83 [] [.int .u8 (c.toNat : Int)] [] (fun v H => v = .bool (smallU c) ∧ H = []) := by
  refine run_fn (fn := fn1268) rfl rfl ?_
  by_cases h1 : (c.toNat : Int) ≥ 97
  · by_cases h2 : (c.toNat : Int) ≤ 122
    · simp only [fn1268_body, c1268, D0, SP0, seval, -Int.reduceNatCast', h1, h2, decide_true]
      simp only [F1, SF0, SP0, seval, -Int.reduceNatCast', fn1268_res, fn1268_keep]
      simp [smallU]; omega
    · simp only [fn1268_body, c1268, D0, SP0, seval, -Int.reduceNatCast', h1, h2, decide_true, decide_false]
      simp only [F1, SF0, SP0, seval, -Int.reduceNatCast', fn1268_res, fn1268_keep]
      simp [smallU]; omega
  · simp only [fn1268_body, c1268, D0, SP0, seval, -Int.reduceNatCast', h1, decide_false]
    simp only [F1, SF0, SP0, seval, -Int.reduceNatCast', fn1268_res, fn1268_keep]
    simp [smallU]; omega
theorem run1269 (c : UInt8) : cwp ft 84 [] [.int .u8 (c.toNat : Int)] [] (fun v H => v = .bool (digitU c) ∧ H = []) := by
  refine run_fn (fn := fn1269) rfl rfl ?_
  by_cases h1 : (c.toNat : Int) ≥ 48
  · by_cases h2 : (c.toNat : Int) ≤ 57
    · simp only [fn1269_body, c1269, D0, SP0, seval, -Int.reduceNatCast', h1, h2, decide_true]
      simp only [F1, SF0, SP0, seval, -Int.reduceNatCast', fn1269_res, fn1269_keep]
      simp [digitU]; omega
    · simp only [fn1269_body, c1269, D0, SP0, seval, -Int.reduceNatCast', h1, h2, decide_true, decide_false]
      simp only [F1, SF0, SP0, seval, -Int.reduceNatCast', fn1269_res, fn1269_keep]
      simp [digitU]; omega
  · simp only [fn1269_body, c1269, D0, SP0, seval, -Int.reduceNatCast', h1, decide_false]
    simp only [F1, SF0, SP0, seval, -Int.reduceNatCast', fn1269_res, fn1269_keep]
    simp [digitU]; omega
theorem run1174 (c : UInt8) : cwp ft 148 [] [.int .u8 (c.toNat : Int)] [] (fun v H => v = .bool (smallU c) ∧ H = []) := by
  refine run_fn (fn := fn1174) rfl rfl ?_
  have hw := u8i32 c
  by_cases h1 : (c.toNat : Int) ≥ 97
  · by_cases h2 : (c.toNat : Int) ≤ 122
    · simp only [fn1174_body, c1174, D0, SP0, seval, -Int.reduceNatCast', hw, h1, h2, decide_true]
      simp only [F1, SF0, SP0, seval, -Int.reduceNatCast', fn1174_res, fn1174_keep]
      simp [smallU]; omega
    · simp only [fn1174_body, c1174, D0, SP0, seval, -Int.reduceNatCast', hw, h1, h2, decide_true, decide_false]
      simp only [F1, SF0, SP0, seval, -Int.reduceNatCast', fn1174_res, fn1174_keep]
      simp [smallU]; omega
  · simp only [fn1174_body, c1174, D0, SP0, seval, -Int.reduceNatCast', hw, h1, decide_false]
    simp only [F1, SF0, SP0, seval, -Int.reduceNatCast', fn1174_res, fn1174_keep]
    simp [smallU]; omega
noncomputable def k1268 : Kon (UInt8) := ⟨fun _ => True, fun x => [.int .u8 (x.toNat : Int)], fun x => .bool (smallU x)⟩
theorem e1268 (c : UInt8) (q0 : Id) (H0 : Heap) : k1268.ora q0 ([.int .u8 (c.toNat : Int)]) H0 = some (.bool (smallU c), H0) := k1268.eq (fun _ _ h => u8Inj h) (c) trivial q0 H0
theorem ook1268 : OraOK Tryz.prog (83 % 100000) k1268.ora := k1268.ok orders ft_ok (fun x hd => by simp [k1268, PU]) (fun x hd => by simp [k1268, PU]) (fun x hd => run1268 x)

noncomputable def k1269 : Kon (UInt8) := ⟨fun _ => True, fun x => [.int .u8 (x.toNat : Int)], fun x => .bool (digitU x)⟩
theorem e1269 (c : UInt8) (q0 : Id) (H0 : Heap) : k1269.ora q0 ([.int .u8 (c.toNat : Int)]) H0 = some (.bool (digitU c), H0) := k1269.eq (fun _ _ h => u8Inj h) (c) trivial q0 H0
theorem ook1269 : OraOK Tryz.prog (84 % 100000) k1269.ora := k1269.ok orders ft_ok (fun x hd => by simp [k1269, PU]) (fun x hd => by simp [k1269, PU]) (fun x hd => run1269 x)

noncomputable def k1174 : Kon (UInt8) := ⟨fun _ => True, fun x => [.int .u8 (x.toNat : Int)], fun x => .bool (smallU x)⟩
theorem e1174 (c : UInt8) (q0 : Id) (H0 : Heap) : k1174.ora q0 ([.int .u8 (c.toNat : Int)]) H0 = some (.bool (smallU c), H0) := k1174.eq (fun _ _ h => u8Inj h) (c) trivial q0 H0
theorem ook1174 : OraOK Tryz.prog (148 % 100000) k1174.ora := k1174.ok orders ft_ok (fun x hd => by simp [k1174, PU]) (fun x hd => by simp [k1174, PU]) (fun x hd => run1174 x)

noncomputable def l1 : FT := upd (upd (upd (ft) 83 k1268.ora) 84 k1269.ora) 148 k1174.ora
theorem l1_ok : FTOK Tryz.prog l1 := upd_ok2 (f := 148) (upd_ok2 (f := 84) (upd_ok2 (f := 83) (ft_ok) ook1268) ook1269) ook1174

theorem run1175 (c : UInt8) : cwp l1 150 [] [.int .u8 (c.toNat : Int)] [] (fun v H => v = .bool (innerU c) ∧ H = []) := by
  refine run_fn (fn := fn1175) rfl rfl ?_
  cases e : smallU c with
  | true =>
    simp only [fn1175_body, c1175, D0, SP0, seval, -Int.reduceNatCast', @use_all l1 148 k1174.ora rfl, e1174, e]
    simp only [F1, SF0, SP0, seval, -Int.reduceNatCast', fn1175_res, fn1175_keep]
    simp [innerU, e]
  | false =>
    by_cases h1 : (c.toNat : Int) ≥ 48
    · by_cases h2 : (c.toNat : Int) ≤ 57
      · simp only [fn1175_body, c1175, D0, SP0, seval, -Int.reduceNatCast', @use_all l1 148 k1174.ora rfl, e1174, e, h1, h2, decide_true]
        simp only [F1, SF0, SP0, seval, -Int.reduceNatCast', fn1175_res, fn1175_keep]
        have : digitU c = true := by simp [digitU]; omega
        simp [innerU, e, this]
      · simp only [fn1175_body, c1175, D0, SP0, seval, -Int.reduceNatCast', @use_all l1 148 k1174.ora rfl, e1174, e, h1, h2, decide_true, decide_false]
        simp only [F1, SF0, SP0, seval, -Int.reduceNatCast', fn1175_res, fn1175_keep]
        have : digitU c = false := by simp [digitU]; omega
        simp [innerU, e, this]
        exact u8eq c 95
    · simp only [fn1175_body, c1175, D0, SP0, seval, -Int.reduceNatCast', @use_all l1 148 k1174.ora rfl, e1174, e, h1, decide_false]
      simp only [F1, SF0, SP0, seval, -Int.reduceNatCast', fn1175_res, fn1175_keep]
      have : digitU c = false := by simp [digitU]; omega
      simp [innerU, e, this]
      exact u8eq c 95
noncomputable def k1175 : Kon (UInt8) := ⟨fun _ => True, fun x => [.int .u8 (x.toNat : Int)], fun x => .bool (innerU x)⟩
theorem e1175 (c : UInt8) (q0 : Id) (H0 : Heap) : k1175.ora q0 ([.int .u8 (c.toNat : Int)]) H0 = some (.bool (innerU c), H0) := k1175.eq (fun _ _ h => u8Inj h) (c) trivial q0 H0
theorem ook1175 : OraOK Tryz.prog (150 % 100000) k1175.ora := k1175.ok orders l1_ok (fun x hd => by simp [k1175, PU]) (fun x hd => by simp [k1175, PU]) (fun x hd => run1175 x)

noncomputable def l2 : FT := upd (l1) 150 k1175.ora
theorem l2_ok : FTOK Tryz.prog l2 := upd_ok2 (f := 150) (l1_ok) ook1175

def runN (s : ByteArray) : Nat := (s.data.toList.takeWhile innerU).length
theorem bget (s : ByteArray) {j : Nat} (h : j < s.size) : s[j]? = some (s.data.toList.getD j 0) := by
  have h2 : j < s.data.toList.length := by simpa using h
  rw [List.getD_eq_getElem?_getD, List.getElem?_eq_getElem h2, getElem?_pos s j h]
  rfl
theorem takeWhile_at {l : List UInt8} {j : Nat} (h : ∀ i, i < j → innerU (l.getD i 0) = true) (hj : j ≤ l.length) (he : j = l.length ∨ innerU (l.getD j 0) = false) : (l.takeWhile innerU).length = j := by
  induction l generalizing j with
  | nil => simp at hj; simp [hj]
  | cons x r ih =>
    cases j with
    | zero =>
      rcases he with he | he
      · simp at he
      · simp at he; simp [List.takeWhile_cons, he]
    | succ j =>
      have h0 : innerU x = true := by simpa using h 0 (by omega)
      rw [List.takeWhile_cons, if_pos h0, List.length_cons, ih (j := j) (fun i hi => by simpa using h (i + 1) (by omega)) (by simpa using hj) (by simpa using he)]
theorem run1170 (s : ByteArray) (hs : s.size ≤ 9223372036854775807) : cwp l2 149 [] [.str s, .func 150 []] [] (fun v H => v = .int .i64 (runN s : Nat) ∧ H = []) := by
  refine run_fn (fn := fn1170) rfl rfl ?_
  simp only [fn1170_body, c1170, D0, SP0, seval, -Int.reduceNatCast']
  refine lg_rule (fun j e H => e = [(0, .str s), (1, .func 150 []), (4, .int .i64 0), (5, .int .i64 j)] ∧ H = [[]] ∧ j ≤ s.size ∧ ∀ i, i < j → innerU (s.data.toList.getD i 0) = true) s.size ?_ ?_
  · exact ⟨rfl, rfl, by simp, by simp⟩
  rintro j e H ⟨rfl, rfl, hj, hi⟩
  have hlen : s.data.toList.length = s.size := by simp
  by_cases h : j < s.size
  · have h' : (j : Int) < (s.size : Int) := by omega
    have hp := wrapp (j := j) (by omega)
    have hb := bget s h
    cases e : innerU (s.data.toList.getD j 0) with
    | true =>
      simp only [D0, SP0, seval, -Int.reduceNatCast', @use_all l2 150 k1175.ora rfl, e1175, h', hb, e, hp, rf_func, Nat.reduceLT, decide_true, Int.natCast_nonneg, Int.toNat_natCast]
      simp only [F1, SF0, SP0, seval, -Int.reduceNatCast']
      refine ⟨h, h, fun i h2 => ?_⟩
      rcases Nat.lt_succ_iff_lt_or_eq.1 h2 with h3 | rfl
      · exact hi i h3
      · exact e
    | false =>
      simp only [D0, SP0, seval, -Int.reduceNatCast', @use_all l2 150 k1175.ora rfl, e1175, h', hb, e, hp, rf_func, Nat.reduceLT, decide_true, Int.natCast_nonneg, Int.toNat_natCast]
      refine .inr ⟨by simp, ?_⟩
      simp only [F1, SF0, SP0, seval, -Int.reduceNatCast', fn1170_res, fn1170_keep]
      have := takeWhile_at hi (by omega) (.inr e)
      simp [runN, this]
  · have h' : ¬ (j : Int) < (s.size : Int) := by omega
    have hj2 : j = s.size := by omega
    subst hj2
    simp only [D0, SP0, seval, -Int.reduceNatCast', h', decide_false]
    refine .inr ⟨by simp, ?_⟩
    simp only [F1, SF0, SP0, seval, -Int.reduceNatCast', fn1170_res, fn1170_keep]
    have := takeWhile_at hi (by omega) (.inl hlen.symm)
    simp [runN, this]
theorem strFInj {f : Nat} {a b : ByteArray} (h : [AV.str a, AV.func f []] = [AV.str b, AV.func f []]) : a = b := by simpa using h
noncomputable def k1170 : Kon (ByteArray) := ⟨fun x => x.size ≤ 9223372036854775807, fun x => [.str x, .func 150 []], fun x => .int .i64 (runN x : Nat)⟩
theorem e1170 (s : ByteArray) (hd : s.size ≤ 9223372036854775807) (q0 : Id) (H0 : Heap) : k1170.ora q0 ([.str s, .func 150 []]) H0 = some (.int .i64 (runN s : Nat), H0) := k1170.eq (fun _ _ h => strFInj h) (s) hd q0 H0
theorem ook1170 : OraOK Tryz.prog (149 % 100000) k1170.ora := k1170.ok orders l2_ok (fun x hd => by simp [k1170, PU]) (fun x hd => by simp [k1170, PU]) (fun x hd => run1170 x hd)

noncomputable def l3 : FT := upd (l2) 149 k1170.ora
theorem l3_ok : FTOK Tryz.prog l3 := upd_ok2 (f := 149) (l2_ok) ook1170

def firstB (s : ByteArray) : Bool := smallU (byteAt s 0)
theorem wordB_eq (s : ByteArray) : wordB s = (decide (1 ≤ s.size) && decide (s.size ≤ 12) && smallU (byteAt s 0) && decide (runN s = s.size)) := by
  have hlen : s.data.toList.length = s.size := by simp
  have key : ((List.range s.size).all fun i => innerU (byteAt s i)) = decide (runN s = s.size) := by
    rw [Bool.eq_iff_iff, decide_eq_true_eq, List.all_eq_true]
    constructor
    · intro h
      exact takeWhile_at (fun i hi => h i (List.mem_range.2 hi)) (by omega) (.inl hlen.symm)
    · intro h i hi
      have h2 : s.data.toList.takeWhile innerU = s.data.toList := by
        have h3 : (s.data.toList.takeWhile innerU).length = s.data.toList.length := by rw [hlen]; exact h
        exact (List.takeWhile_prefix innerU).eq_of_length h3
      have hi' : i < s.data.toList.length := by rw [hlen]; exact List.mem_range.1 hi
      have h5 : byteAt s i ∈ s.data.toList.takeWhile innerU := by
        rw [h2]; unfold byteAt
        rw [List.getD_eq_getElem?_getD, List.getElem?_eq_getElem hi']
        exact List.getElem_mem hi'
      exact List.all_eq_true.1 (List.all_takeWhile (p := innerU) (l := s.data.toList)) _ h5
  unfold wordB
  rw [key]
theorem run1176 (s : ByteArray) (hs : s.size ≤ 9223372036854775807) : cwp l3 128 [] [.str s] [] (fun v H => v = .bool (wordB s) ∧ H = []) := by
  refine run_fn (fn := fn1176) rfl rfl ?_
  rw [wordB_eq]
  by_cases h1 : (s.size : Int) ≥ 1
  case neg =>
    simp only [fn1176_body, c1176, D0, SP0, seval, -Int.reduceNatCast', h1, decide_false]
    simp only [F1, SF0, SP0, seval, -Int.reduceNatCast', fn1176_res, fn1176_keep]
    simp; omega
  by_cases h2 : (s.size : Int) ≤ 12
  case neg =>
    simp only [fn1176_body, c1176, D0, SP0, seval, -Int.reduceNatCast', h1, h2, decide_true, decide_false]
    simp only [F1, SF0, SP0, seval, -Int.reduceNatCast', fn1176_res, fn1176_keep]
    simp; omega
  have hb := bget s (j := 0) (by omega)
  cases e : smallU (byteAt s 0) with
  | false =>
    have e' : smallU (s.data.toList.getD 0 0) = false := e
    simp only [fn1176_body, c1176, D0, SP0, seval, -Int.reduceNatCast', @use_all l3 148 k1174.ora rfl, e1174, h1, h2, hb, e', decide_true, Int.natCast_nonneg, Int.toNat_natCast, Int.le_refl, Int.toNat_zero]
    simp only [F1, SF0, SP0, seval, -Int.reduceNatCast', fn1176_res, fn1176_keep]
    simp
  | true =>
    have e' : smallU (s.data.toList.getD 0 0) = true := e
    simp only [fn1176_body, c1176, D0, SP0, seval, -Int.reduceNatCast', @use_all l3 148 k1174.ora rfl, e1174, @use_all l3 149 k1170.ora rfl, e1170, hs, h1, h2, hb, e', decide_true, Int.natCast_nonneg, Int.toNat_natCast, Int.le_refl, Int.toNat_zero]
    simp only [F1, SF0, SP0, seval, -Int.reduceNatCast', fn1176_res, fn1176_keep]
    have a1 : 1 ≤ s.size := by omega
    have a2 : s.size ≤ 12 := by omega
    have a3 : ((runN s : Int) == (s.size : Int)) = decide (runN s = s.size) := by
      by_cases h : runN s = s.size
      · simp [h]
      · have : ¬ (runN s : Int) = (s.size : Int) := by omega
        simp [h, this]
    simp [a1, a2, a3]
theorem strInj {a b : ByteArray} (h : [AV.str a] = [AV.str b]) : a = b := by simpa using h
noncomputable def k1176 : Kon (ByteArray) := ⟨fun x => x.size ≤ 9223372036854775807, fun x => [.str x], fun x => .bool (wordB x)⟩
theorem e1176 (s : ByteArray) (hd : s.size ≤ 9223372036854775807) (q0 : Id) (H0 : Heap) : k1176.ora q0 ([.str s]) H0 = some (.bool (wordB s), H0) := k1176.eq (fun _ _ h => strInj h) (s) hd q0 H0
theorem ook1176 : OraOK Tryz.prog (128 % 100000) k1176.ora := k1176.ok orders l3_ok (fun x hd => by simp [k1176, PU]) (fun x hd => by simp [k1176, PU]) (fun x hd => run1176 x hd)

noncomputable def l4 : FT := upd (l3) 128 k1176.ora
theorem l4_ok : FTOK Tryz.prog l4 := upd_ok2 (f := 128) (l3_ok) ook1176

def idxF (s : ByteArray) : List ByteArray → Nat → Int
  | [], _ => -1
  | w :: r, n => if s = w then (n : Int) else idxF s r (n + 1)
theorem idxF_any (s : ByteArray) : ∀ (l : List ByteArray) (n : Nat), decide (idxF s l n ≥ 0) = l.any fun w => decide (s = w)
  | [], n => by simp [idxF]
  | w :: r, n => by
    unfold idxF
    by_cases h : s = w
    · simp [h]
    · rw [if_neg h, idxF_any s r (n + 1)]; simp [h]
theorem run1283 (ws : List ByteArray) (s : ByteArray) (hl : ws.length ≤ 9223372036854775807) : cwp l4 151 [] [.list 1 (List.map (fun w => [AV.str w]) ws), .str s] [] (fun v H => v = .int .i64 (idxF s ws 0) ∧ H = []) := by
  refine run_fn (fn := fn1283) rfl rfl ?_
  simp only [fn1283_body, c1283, D0, SP0, seval, -Int.reduceNatCast']
  refine lg_rule (fun j e H => e = [(0, .list 1 (List.map (fun w => [AV.str w]) ws)), (1, .str s), (4, .int .i64 0), (7, .int .i64 ws.length), (8, .int .i64 j)] ∧ H = [[]] ∧ j ≤ ws.length ∧ idxF s (ws.drop j) j = idxF s ws 0) ws.length ?_ ?_
  · exact ⟨rfl, rfl, by simp, rfl⟩
  rintro j e H ⟨rfl, rfl, hj, hi⟩
  by_cases h : j < ws.length
  · have h' : (j : Int) < (ws.length : Int) := by omega
    have hp := wrapp (j := j) (by omega)
    have hg := map_get (f := fun w => [AV.str w]) h ⟨#[]⟩
    have hd : ws.drop j = ws.getD j ⟨#[]⟩ :: ws.drop (j + 1) := by
      rw [List.drop_eq_getElem_cons h, List.getD_eq_getElem?_getD, List.getElem?_eq_getElem h]; rfl
    rw [hd, idxF] at hi
    by_cases e : s = ws.getD j ⟨#[]⟩
    · rw [if_pos e] at hi
      have e' : decide (s = ws.getD j ⟨#[]⟩) = true := by simp [e]
      simp only [D0, SP0, seval, -Int.reduceNatCast', h', hg, hp, astr_eql, e', decide_true, Int.natCast_nonneg, Int.toNat_natCast]
      refine .inr ⟨by simp, ?_⟩
      simp only [F1, SF0, SP0, seval, -Int.reduceNatCast', fn1283_res, fn1283_keep, hi]
    · rw [if_neg e] at hi
      have e' : decide (s = ws.getD j ⟨#[]⟩) = false := decide_eq_false e
      simp only [D0, SP0, seval, -Int.reduceNatCast', h', hg, hp, astr_eql, e', decide_true, Int.natCast_nonneg, Int.toNat_natCast]
      simp only [F1, SF0, SP0, seval, -Int.reduceNatCast']
      exact ⟨h, h, hi⟩
  · have h' : ¬ (j : Int) < (ws.length : Int) := by omega
    have hz : ws.drop j = [] := List.drop_eq_nil_of_le (by omega)
    rw [hz, idxF] at hi
    simp only [D0, SP0, seval, -Int.reduceNatCast', h', decide_false]
    refine .inr ⟨by simp, ?_⟩
    simp only [F1, SF0, SP0, seval, -Int.reduceNatCast', fn1283_res, fn1283_keep, hi]
theorem pure_strs (l : List ByteArray) : Pure (.list 1 (List.map (fun w => [AV.str w]) l)) = True := eq_true (.list _ _ (pure_flat (by
  intro r hr a ha
  obtain ⟨n, _, rfl⟩ := List.mem_map.1 hr
  rw [List.mem_singleton.1 ha]
  exact .str _)))
attribute [simp] pure_strs
theorem strsInj {a b : List ByteArray} (h : List.map (fun w => [AV.str w]) a = List.map (fun w => [AV.str w]) b) : a = b := map_inj' (fun _ _ h => by simpa using h) h
theorem strsStrInj {a b : List ByteArray × ByteArray} (h : [AV.list 1 (List.map (fun w => [AV.str w]) a.1), AV.str a.2] = [AV.list 1 (List.map (fun w => [AV.str w]) b.1), AV.str b.2]) : a = b := by
  simp only [List.cons.injEq, AV.list.injEq, AV.str.injEq, and_true, true_and] at h
  exact Prod.ext (strsInj h.1) h.2
noncomputable def k1283 : Kon (List ByteArray × ByteArray) := ⟨fun x => x.1.length ≤ 9223372036854775807, fun x => [.list 1 (List.map (fun w => [AV.str w]) x.1), .str x.2], fun x => .int .i64 (idxF x.2 x.1 0)⟩
theorem e1283 (ws : List ByteArray) (s : ByteArray) (hd : ws.length ≤ 9223372036854775807) (q0 : Id) (H0 : Heap) : k1283.ora q0 ([.list 1 (List.map (fun w => [AV.str w]) ws), .str s]) H0 = some (.int .i64 (idxF s ws 0), H0) := k1283.eq (fun _ _ h => strsStrInj h) (ws, s) hd q0 H0
theorem ook1283 : OraOK Tryz.prog (151 % 100000) k1283.ora := k1283.ok orders l4_ok (fun x hd => by simp [k1283, PU]) (fun x hd => by simp [k1283, PU]) (fun x hd => run1283 x.1 x.2 hd)

noncomputable def l5 : FT := upd (l4) 151 k1283.ora
theorem l5_ok : FTOK Tryz.prog l5 := upd_ok2 (f := 151) (l4_ok) ook1283

theorem run1280 (ws : List ByteArray) (s : ByteArray) (hl : ws.length ≤ 9223372036854775807) : cwp l5 129 [] [.list 1 (List.map (fun w => [AV.str w]) ws), .str s] [] (fun v H => v = .bool (ws.any fun w => decide (s = w)) ∧ H = []) := by
  refine run_fn (fn := fn1280) rfl rfl ?_
  simp only [fn1280_body, c1280, D0, SP0, seval, -Int.reduceNatCast', @use_all l5 151 k1283.ora rfl, e1283, hl]
  simp only [F1, SF0, SP0, seval, -Int.reduceNatCast', fn1280_res, fn1280_keep]
  rw [idxF_any]
noncomputable def k1280 : Kon (List ByteArray × ByteArray) := ⟨fun x => x.1.length ≤ 9223372036854775807, fun x => [.list 1 (List.map (fun w => [AV.str w]) x.1), .str x.2], fun x => .bool (x.1.any fun w => decide (x.2 = w))⟩
theorem e1280 (ws : List ByteArray) (s : ByteArray) (hd : ws.length ≤ 9223372036854775807) (q0 : Id) (H0 : Heap) : k1280.ora q0 ([.list 1 (List.map (fun w => [AV.str w]) ws), .str s]) H0 = some (.bool (ws.any fun w => decide (s = w)), H0) := k1280.eq (fun _ _ h => strsStrInj h) (ws, s) hd q0 H0
theorem ook1280 : OraOK Tryz.prog (129 % 100000) k1280.ora := k1280.ok orders l5_ok (fun x hd => by simp [k1280, PU]) (fun x hd => by simp [k1280, PU]) (fun x hd => run1280 x.1 x.2 hd)

noncomputable def l6 : FT := upd (l5) 129 k1280.ora
theorem l6_ok : FTOK Tryz.prog l6 := upd_ok2 (f := 129) (l5_ok) ook1280

theorem resW_list : AV.list 1 [[AV.str ⟨#[99, 108, 97, 115, 115]⟩], [AV.str ⟨#[101, 108, 115, 101]⟩], [AV.str ⟨#[97, 110, 121]⟩], [AV.str ⟨#[101, 109, 112, 116, 121]⟩], [AV.str ⟨#[110, 101, 118, 101, 114]⟩]] = AV.list 1 (List.map (fun w => [AV.str w]) resW) := rfl
theorem ri_gsl {ft : FT} {ks : List Kt} {Q : Fin} {s : St} {drop : List Nat} {k : Nat} {d : Option Nat} {r : List AIn} (n : Nat) (x : AX) : ri ft (.gsl n x) d r k drop ks Q s = rs ft (ains (.gsl n x) s) d r k drop ks Q := propext Iff.rfl
theorem ains_gsl (n : Nat) (cs : List AV) (s : St) (h : 0 < n ∧ cs.length = n) : ains (.gsl n (.k (.rp cs))) s = some (.list 1 (cs.map fun c => [c]), s) := if_pos h
theorem resW_len : resW.length ≤ 9223372036854775807 := by decide
theorem run1271 (s : ByteArray) (hs : s.size ≤ 9223372036854775807) : cwp l6 92 [] [.str s] [] (fun v H => v = .bool (isNameB s) ∧ H = []) := by
  refine run_fn (fn := fn1271) rfl rfl ?_
  have hw := resW_len
  cases e : wordB s with
  | false =>
    simp only [fn1271_body, c1271, D0, SP0, seval, -Int.reduceNatCast', @use_all l6 128 k1176.ora rfl, e1176, hs, e]
    simp only [F1, SF0, SP0, seval, -Int.reduceNatCast', fn1271_res, fn1271_keep]
    simp [isNameB, e]
  | true =>
    simp only [fn1271_body, c1271, D0, SP0, seval, -Int.reduceNatCast', @use_all l6 128 k1176.ora rfl, e1176, @use_all l6 129 k1280.ora rfl, e1280, hs, e, hw, ri_gsl, ains_gsl, Nat.reduceLT, and_self, resW_list]
    simp only [F1, SF0, SP0, seval, -Int.reduceNatCast', fn1271_res, fn1271_keep]
    simp [isNameB, e]
noncomputable def k1271 : Kon (ByteArray) := ⟨fun x => x.size ≤ 9223372036854775807, fun x => [.str x], fun x => .bool (isNameB x)⟩
theorem e1271 (s : ByteArray) (hd : s.size ≤ 9223372036854775807) (q0 : Id) (H0 : Heap) : k1271.ora q0 ([.str s]) H0 = some (.bool (isNameB s), H0) := k1271.eq (fun _ _ h => strInj h) (s) hd q0 H0
theorem ook1271 : OraOK Tryz.prog (92 % 100000) k1271.ora := k1271.ok orders l6_ok (fun x hd => by simp [k1271, PU]) (fun x hd => by simp [k1271, PU]) (fun x hd => run1271 x hd)

def okc (s : ByteArray) (i : Nat) : Bool := smallU (byteAt s i) || (decide (¬ i = 0) && (digitU (byteAt s i) || decide ((byteAt s i).toNat = 95)))
theorem wordB_ok (s : ByteArray) : wordB s = (decide (1 ≤ s.size) && decide (s.size ≤ 12) && (List.range s.size).all (okc s)) := by
  by_cases h1 : 1 ≤ s.size
  case neg => simp [wordB, h1]
  have key : (smallU (byteAt s 0) && (List.range s.size).all fun i => innerU (byteAt s i)) = (List.range s.size).all (okc s) := by
    rw [Bool.eq_iff_iff, Bool.and_eq_true, List.all_eq_true, List.all_eq_true]
    constructor
    · rintro ⟨h0, h⟩ i hi
      have := h i hi
      by_cases hz : i = 0
      · subst hz; simp [okc, h0]
      · simp only [innerU, Bool.or_eq_true] at this
        simp only [okc, hz, not_false_eq_true, decide_true, Bool.true_and, Bool.or_eq_true]
        rcases this with (h2 | h2) | h2
        · exact .inl h2
        · exact .inr (.inl h2)
        · exact .inr (.inr h2)
    · intro h
      refine ⟨?_, fun i hi => ?_⟩
      · have := h 0 (List.mem_range.2 (by omega))
        simpa [okc] using this
      · have := h i hi
        simp only [okc, Bool.or_eq_true, Bool.and_eq_true] at this
        simp only [innerU, Bool.or_eq_true]
        rcases this with h2 | ⟨_, h2 | h2⟩
        · exact .inl (.inl h2)
        · exact .inl (.inr h2)
        · exact .inr h2
  unfold wordB
  rw [Bool.and_assoc, key]
theorem run1256 (s : ByteArray) (hs : s.size ≤ 9223372036854775807) : cwp l6 52 [] [.str s] [] (fun v H => v = .bool (isNameB s) ∧ H = []) := by
  refine run_fn (fn := fn1256) rfl rfl ?_
  simp only [fn1256_body, c1256, D0, SP0, seval, -Int.reduceNatCast']
  refine lg_rule (fun j e H => e = [(0, .str s), (2, .bool false), (3, .int .i64 j)] ∧ H = [[]] ∧ j ≤ s.size ∧ ∀ i, i < j → okc s i = true) s.size ?_ ?_
  · exact ⟨rfl, rfl, by simp, by simp⟩
  rintro j e H ⟨rfl, rfl, hj, hi⟩
  by_cases h : j < s.size
  · have h' : (j : Int) < (s.size : Int) := by omega
    have hp := wrapp (j := j) (by omega)
    have hb := bget s h
    have bad : okc s j = false → isNameB s = false := fun e => by
      have : (List.range s.size).all (okc s) = false := by
        rw [Bool.eq_false_iff]; intro h2
        have := List.all_eq_true.1 h2 j (List.mem_range.2 h)
        rw [e] at this; cases this
      simp [isNameB, wordB_ok, this]
    have good : okc s j = true → ∀ i, i < j + 1 → okc s i = true := fun e i h2 => by
      rcases Nat.lt_succ_iff_lt_or_eq.1 h2 with h3 | rfl
      · exact hi i h3
      · exact e
    change s[j]? = some (byteAt s j) at hb
    cases e1 : smallU (byteAt s j) with
    | true =>
      simp only [D0, SP0, seval, -Int.reduceNatCast', @use_all l6 83 k1268.ora rfl, e1268, h', hb, e1, hp, decide_true, Int.natCast_nonneg, Int.toNat_natCast]
      simp only [F1, SF0, SP0, seval, -Int.reduceNatCast']
      exact ⟨h, h, good (by simp [okc, e1])⟩
    | false =>
      by_cases h0 : j = 0
      · subst h0
        have bad := bad (by simp [okc, e1])
        have h0' : (((0 : Nat) : Int) == 0) = true := rfl
        simp only [D0, SP0, seval, -Int.reduceNatCast', @use_all l6 83 k1268.ora rfl, e1268, h', hb, e1, hp, h0', decide_true, Int.natCast_nonneg, Int.toNat_natCast]
        refine .inr ⟨by simp, ?_⟩
        simp only [F1, SF0, SP0, seval, -Int.reduceNatCast', fn1256_res, fn1256_keep, bad]
      · have h0' : ((j : Int) == 0) = false := by simp; omega
        cases e2 : digitU (byteAt s j) with
        | true =>
          simp only [D0, SP0, seval, -Int.reduceNatCast', @use_all l6 83 k1268.ora rfl, e1268, @use_all l6 84 k1269.ora rfl, e1269, h', hb, e1, e2, hp, h0', decide_true, Int.natCast_nonneg, Int.toNat_natCast]
          simp only [F1, SF0, SP0, seval, -Int.reduceNatCast']
          exact ⟨h, h, good (by simp [okc, e1, e2, h0])⟩
        | false =>
          by_cases h9 : (byteAt s j).toNat = 95
          · have h9' : (((byteAt s j).toNat : Int) != 95) = false := by rw [h9]; rfl
            simp only [D0, SP0, seval, -Int.reduceNatCast', @use_all l6 83 k1268.ora rfl, e1268, @use_all l6 84 k1269.ora rfl, e1269, h', hb, e1, e2, hp, h0', h9', decide_true, Int.natCast_nonneg, Int.toNat_natCast]
            simp only [F1, SF0, SP0, seval, -Int.reduceNatCast']
            exact ⟨h, h, good (by simp [okc, e1, e2, h0, h9])⟩
          · have h9' : (((byteAt s j).toNat : Int) != 95) = true := by simp; omega
            have bad := bad (by simp [okc, e1, e2, h9])
            simp only [D0, SP0, seval, -Int.reduceNatCast', @use_all l6 83 k1268.ora rfl, e1268, @use_all l6 84 k1269.ora rfl, e1269, h', hb, e1, e2, hp, h0', h9', decide_true, Int.natCast_nonneg, Int.toNat_natCast]
            refine .inr ⟨by simp, ?_⟩
            simp only [F1, SF0, SP0, seval, -Int.reduceNatCast', fn1256_res, fn1256_keep, bad]
  · have h' : ¬ (j : Int) < (s.size : Int) := by omega
    have hall : (List.range s.size).all (okc s) = true := by
      rw [List.all_eq_true]; intro i h2; exact hi i (by have := List.mem_range.1 h2; omega)
    simp only [D0, SP0, seval, -Int.reduceNatCast', h', decide_false]
    refine .inr ⟨by simp, ?_⟩
    by_cases h1 : (s.size : Int) ≥ 1
    case neg =>
      simp only [D0, SP0, seval, -Int.reduceNatCast', h1, decide_false]
      simp only [F1, SF0, SP0, seval, -Int.reduceNatCast', fn1256_res, fn1256_keep]
      simp [isNameB, wordB, show ¬ 1 ≤ s.size by omega]
    by_cases h2 : (s.size : Int) ≤ 12
    case neg =>
      simp only [D0, SP0, seval, -Int.reduceNatCast', h1, h2, decide_true, decide_false]
      simp only [F1, SF0, SP0, seval, -Int.reduceNatCast', fn1256_res, fn1256_keep]
      simp [isNameB, wordB, show ¬ s.size ≤ 12 by omega]
    have hw : wordB s = true := by rw [wordB_ok, hall]; simp; omega
    have hr : isNameB s = !(resW.any fun w => decide (s = w)) := by simp [isNameB, hw]
    cases d1 : decide (s = ⟨#[99, 108, 97, 115, 115]⟩) with
    | true =>
      simp only [D0, SP0, seval, -Int.reduceNatCast', astr_neq, h1, h2, d1, decide_true]
      simp only [F1, SF0, SP0, seval, -Int.reduceNatCast', fn1256_res, fn1256_keep]
      rw [hr]
      simp only [resW, List.any_cons, d1, Bool.or_true, Bool.true_or, Bool.not_true, Bool.false_or, and_self]
    | false =>
    cases d2 : decide (s = ⟨#[101, 108, 115, 101]⟩) with
    | true =>
      simp only [D0, SP0, seval, -Int.reduceNatCast', astr_neq, h1, h2, d1, d2, decide_true]
      simp only [F1, SF0, SP0, seval, -Int.reduceNatCast', fn1256_res, fn1256_keep]
      rw [hr]
      simp only [resW, List.any_cons, d1, d2, Bool.or_true, Bool.true_or, Bool.not_true, Bool.false_or, and_self]
    | false =>
    cases d3 : decide (s = ⟨#[97, 110, 121]⟩) with
    | true =>
      simp only [D0, SP0, seval, -Int.reduceNatCast', astr_neq, h1, h2, d1, d2, d3, decide_true]
      simp only [F1, SF0, SP0, seval, -Int.reduceNatCast', fn1256_res, fn1256_keep]
      rw [hr]
      simp only [resW, List.any_cons, d1, d2, d3, Bool.or_true, Bool.true_or, Bool.not_true, Bool.false_or, and_self]
    | false =>
    cases d4 : decide (s = ⟨#[101, 109, 112, 116, 121]⟩) with
    | true =>
      simp only [D0, SP0, seval, -Int.reduceNatCast', astr_neq, h1, h2, d1, d2, d3, d4, decide_true]
      simp only [F1, SF0, SP0, seval, -Int.reduceNatCast', fn1256_res, fn1256_keep]
      rw [hr]
      simp only [resW, List.any_cons, d1, d2, d3, d4, Bool.or_true, Bool.true_or, Bool.not_true, Bool.false_or, and_self]
    | false =>
    cases d5 : decide (s = ⟨#[110, 101, 118, 101, 114]⟩) with
    | true =>
      simp only [D0, SP0, seval, -Int.reduceNatCast', astr_neq, h1, h2, d1, d2, d3, d4, d5, decide_true]
      simp only [F1, SF0, SP0, seval, -Int.reduceNatCast', fn1256_res, fn1256_keep]
      rw [hr]
      simp only [resW, List.any_cons, d1, d2, d3, d4, d5, Bool.or_true, Bool.true_or, Bool.not_true, Bool.false_or, and_self]
    | false =>
    simp only [D0, SP0, seval, -Int.reduceNatCast', astr_neq, h1, h2, d1, d2, d3, d4, d5, decide_true]
    simp only [F1, SF0, SP0, seval, -Int.reduceNatCast', fn1256_res, fn1256_keep]
    rw [hr]
    simp only [resW, List.any_cons, List.any_nil, d1, d2, d3, d4, d5, Bool.or_self, Bool.not_false, and_self]
noncomputable def k1256 : Kon (ByteArray) := ⟨fun x => x.size ≤ 9223372036854775807, fun x => [.str x], fun x => .bool (isNameB x)⟩
theorem e1256 (s : ByteArray) (hd : s.size ≤ 9223372036854775807) (q0 : Id) (H0 : Heap) : k1256.ora q0 ([.str s]) H0 = some (.bool (isNameB s), H0) := k1256.eq (fun _ _ h => strInj h) (s) hd q0 H0
theorem ook1256 : OraOK Tryz.prog (52 % 100000) k1256.ora := k1256.ok orders l6_ok (fun x hd => by simp [k1256, PU]) (fun x hd => by simp [k1256, PU]) (fun x hd => run1256 x hd)

end Go.Proofs.Abs

set_option maxRecDepth 100000
namespace Go.Proofs.Abs
open Go
structure Nm where
  name : ByteArray
  set : List (Int × Int)
structure Rl where
  before : List Nd
  after : List Nd
  brk : Bool
structure Rs where
  names : List Nm
  list : List Rl
  els : Bool
instance : Inhabited Nm := ⟨⟨⟨#[]⟩, []⟩⟩
instance : Inhabited Rl := ⟨⟨[], [], false⟩⟩
def eNm (n : Nm) : List AV := [AV.str n.name, (AV.list 2 (List.map (fun x => [AV.int .i64 x.1, AV.int .i64 x.2]) (n.set)))]
def eRl (x : Rl) : List AV := [(AV.list 5 (List.map eNd x.before)), (AV.list 5 (List.map eNd x.after)), AV.bool x.brk]
structure WfM (n : Nm) : Prop where
  name : n.name.size ≤ 9223372036854775807
  set : WfS n.set
structure WfL (x : Rl) : Prop where
  before : WfT x.before
  after : WfT x.after
structure WfR (r : Rs) : Prop where
  names : r.names.length ≤ 9223372036854775807 ∧ ∀ n ∈ r.names, WfM n
  list : r.list.length ≤ 9223372036854775807 ∧ ∀ x ∈ r.list, WfL x
theorem eNm_inj {n m : Nm} (h : eNm n = eNm m) : n = m := by
  cases n; cases m
  simp only [eNm, List.cons.injEq, AV.str.injEq, and_true] at h
  have := eSet_inj (a := _) (b := _) h.2
  rw [h.1, this]
theorem eRl_inj {n m : Rl} (h : eRl n = eRl m) : n = m := by
  cases n; cases m
  simp only [eRl, List.cons.injEq, AV.bool.injEq, and_true] at h
  have h1 := eTree_inj (a := _) (b := _) h.1
  have h2 := eTree_inj (a := _) (b := _) h.2.1
  rw [h1, h2, h.2.2]
theorem eNms_inj {l m : List Nm} (h : List.map eNm l = List.map eNm m) : l = m := map_inj' (fun _ _ h => eNm_inj h) h
theorem eRls_inj {l m : List Rl} (h : List.map eRl l = List.map eRl m) : l = m := map_inj' (fun _ _ h => eRl_inj h) h
theorem rules_inj {r s : Rs} (h : (AV.agg [(AV.list 2 (List.map eNm (Rs.names r))), (AV.list 3 (List.map eRl (Rs.list r))), AV.bool (Rs.els r)]) = (AV.agg [(AV.list 2 (List.map eNm (Rs.names s))), (AV.list 3 (List.map eRl (Rs.list s))), AV.bool (Rs.els s)])) : r = s := by
  cases r; cases s
  simp only [AV.agg.injEq, List.cons.injEq, AV.list.injEq, AV.bool.injEq, and_true, true_and] at h
  rw [eNms_inj h.1, eRls_inj h.2.1, h.2.2]
theorem pure_eNm (n : Nm) : ∀ a ∈ eNm n, Pure a := by
  intro a h
  simp only [eNm, List.mem_cons, List.not_mem_nil, or_false] at h
  rcases h with rfl | rfl
  · exact .str _
  · exact pure_eSet _
theorem pure_eRl (x : Rl) : ∀ a ∈ eRl x, Pure a := by
  intro a h
  simp only [eRl, List.mem_cons, List.not_mem_nil, or_false] at h
  rcases h with rfl | rfl | rfl
  · exact pure_eTree _
  · exact pure_eTree _
  · exact .bool _
theorem pure_nms (l : List Nm) : Pure (.list 2 (List.map eNm l)) = True := eq_true (.list _ _ (pure_flat (by
  intro r hr a ha
  obtain ⟨n, _, rfl⟩ := List.mem_map.1 hr
  exact pure_eNm n a ha)))
theorem pure_rls (l : List Rl) : Pure (.list 3 (List.map eRl l)) = True := eq_true (.list _ _ (pure_flat (by
  intro r hr a ha
  obtain ⟨n, _, rfl⟩ := List.mem_map.1 hr
  exact pure_eRl n a ha)))
attribute [simp] pure_nms pure_rls
def shRules : ASh := .agg [.sl [.str, shSet], .sl [shTree, shTree, .bool], .bool]
theorem okv_rules {v : AV} (h : Oka shRules v) : ∃ r : Rs, v = (AV.agg [(AV.list 2 (List.map eNm (Rs.names r))), (AV.list 3 (List.map eRl (Rs.list r))), AV.bool (Rs.els r)]) ∧ WfR r := by
  cases v with
  | agg q =>
    have h : OkL [.sl [.str, shSet], .sl [shTree, shTree, .bool], .bool] q := h
    obtain ⟨hl, hv⟩ := h
    match q, hl with
    | [a, b, c], _ =>
      have ha := hv 0 _ _ rfl rfl
      have hb := hv 1 _ _ rfl rfl
      have hc := hv 2 _ _ rfl rfl
      cases ha with
      | sl _ rows hrl hrr hrv =>
        obtain ⟨l, rfl, hp⟩ := rows_of (f := eNm) (p := WfM) (rows := rows) fun r hm => by
          have h1 := hrr r hm
          match r, h1 with
          | [a, b], _ =>
            have hs := hrv _ hm 0 _ _ rfl rfl
            obtain ⟨s, rfl, hs'⟩ := okv_set (hrv _ hm 1 _ _ rfl rfl)
            cases hs with
            | str x hx => exact ⟨⟨x, s⟩, rfl, by simpa [maxLen] using hx, hs'⟩
        cases hb with
        | sl _ rows2 hrl2 hrr2 hrv2 =>
          obtain ⟨l2, rfl, hp2⟩ := rows_of (f := eRl) (p := WfL) (rows := rows2) fun r hm => by
            have h1 := hrr2 r hm
            match r, h1 with
            | [a, b, c], _ =>
              obtain ⟨s, rfl, hs⟩ := okv_tree (hrv2 _ hm 0 _ _ rfl rfl)
              obtain ⟨t, rfl, ht⟩ := okv_tree (hrv2 _ hm 1 _ _ rfl rfl)
              have hk := hrv2 _ hm 2 _ _ rfl rfl
              cases hk with
              | bool b => exact ⟨⟨s, t, b⟩, rfl, hs, ht⟩
          cases hc with
          | bool b => exact ⟨⟨l, l2, b⟩, rfl, ⟨by simpa [maxLen] using hrl, hp⟩, by simpa [maxLen] using hrl2, hp2⟩
  | _ => exact h.elim
end Go.Proofs.Abs

set_option maxRecDepth 100000
namespace Go.Proofs.Abs
open Go
def nmOK (names : List Nm) (i : Nat) : Bool := isNameB (names.getD i default).name && decide (0 < (names.getD i default).set.length) && goodS (names.getD i default).set && (List.range i).all fun k => decide (¬ (names.getD k default).name = (names.getD i default).name)
def namesB (names : List Nm) : Bool := (List.range names.length).all (nmOK names)
def knownN (names : List Nm) (z : ByteArray) : Option (List (Int × Int)) := (names.find? fun n => decide (n.name = z)).map (·.set)
def ndNm (names : List Nm) (n : Nd) : Bool := decide (n.name.size = 0) || decide (knownN names n.name = some n.set)
def treeNm (names : List Nm) (t : List Nd) : Bool := goodT t && t.all (ndNm names)
def goodR (r : Rs) : Bool := namesB r.names && r.list.all (fun x => treeNm r.names x.before && treeNm r.names x.after) && decide (r.list.length ≤ 40)
def tellsB (x : Rl) (l : List Int) (i : Int) : Bool := decide (0 ≤ i) && decide (i ≤ l.length) && (List.range (i.toNat + 1)).any fun k => takesT x.before (l.take k) && takesT x.after ((l.take i.toNat).drop k)
def breakB (r : Rs) (l : List Int) (i : Nat) : Bool := match r.list.find? (fun x => tellsB x l i) with
  | some x => x.brk
  | none => r.els
def okR (r : Rs) (l : List Int) : Bool := goodR r && l.all isS
def breaksL (r : Rs) (l : List Int) : List Int := ((List.range (l.length + 1)).filter (breakB r l)).map fun (i : Nat) => (i : Int)
theorem names_uniq {names : List Nm} (h : namesB names = true) {i k : Nat} (hi : i < names.length) (hk : k < names.length) (e : (names.getD i default).name = (names.getD k default).name) : i = k := by
  have key : ∀ i k, i < k → k < names.length → ¬ (names.getD i default).name = (names.getD k default).name := fun i k hik hk e => by
    have := List.all_eq_true.1 h k (List.mem_range.2 hk)
    simp only [nmOK, Bool.and_eq_true] at this
    have := List.all_eq_true.1 this.2 i (List.mem_range.2 hik)
    simp only [decide_eq_true_eq] at this
    exact this e
  rcases Nat.lt_trichotomy i k with c | c | c
  · exact absurd e (key i k c hk)
  · exact c
  · exact absurd e.symm (key k i c hi)
theorem known_iff {names : List Nm} (h : namesB names = true) (z : ByteArray) (s : List (Int × Int)) : knownN names z = some s ↔ ∃ i, i < names.length ∧ (names.getD i default).name = z ∧ (names.getD i default).set = s := by
  have hget : ∀ n ∈ names, ∃ i, i < names.length ∧ names.getD i default = n := fun n hn => by
    obtain ⟨i, hi, rfl⟩ := List.getElem_of_mem hn
    exact ⟨i, hi, by rw [List.getD_eq_getElem?_getD, List.getElem?_eq_getElem hi]; rfl⟩
  unfold knownN
  constructor
  · intro e
    rw [Option.map_eq_some_iff] at e
    obtain ⟨n, e1, e2⟩ := e
    obtain ⟨i, hi, e3⟩ := hget n (List.mem_of_find?_eq_some e1)
    have := List.find?_some e1
    simp only [decide_eq_true_eq] at this
    exact ⟨i, hi, by rw [e3]; exact this, by rw [e3]; exact e2⟩
  · rintro ⟨i, hi, e1, e2⟩
    cases ef : names.find? fun n => decide (n.name = z) with
    | none =>
      have hm : names.getD i default ∈ names := by rw [List.getD_eq_getElem?_getD, List.getElem?_eq_getElem hi]; exact List.getElem_mem hi
      have := List.find?_eq_none.1 ef _ hm
      simp only [decide_eq_true_eq] at this
      exact absurd e1 this
    | some n =>
      obtain ⟨k, hk, e3⟩ := hget n (List.mem_of_find?_eq_some ef)
      have := List.find?_some ef
      simp only [decide_eq_true_eq] at this
      have e4 := names_uniq h hi hk (by rw [e1, e3, this])
      subst e4
      rw [e3] at e2
      simp [e2]
theorem tells_pre (x : Rl) (l m : List Int) {i : Nat} (h : i ≤ l.length) : tellsB x (l ++ m) i = tellsB x l i := by
  unfold tellsB
  have e1 : decide ((i : Int) ≤ ((l ++ m).length : Int)) = true := by rw [decide_eq_true_eq, List.length_append]; omega
  have e2 : decide ((i : Int) ≤ (l.length : Int)) = true := by rw [decide_eq_true_eq]; omega
  rw [e1, e2]
  congr 1
  rw [Int.toNat_natCast]
  refine any_congr fun k hk => ?_
  rw [List.take_append_of_le_length (by omega), List.take_append_of_le_length h]
theorem break_pre (r : Rs) (l m : List Int) {i : Nat} (h : i ≤ l.length) : breakB r (l ++ m) i = breakB r l i := by
  unfold breakB
  have : (fun x => tellsB x (l ++ m) (i : Int)) = fun x => tellsB x l (i : Int) := funext fun x => tells_pre x l m h
  rw [this]
theorem tells_end (x : Rl) (l : List Int) : tellsB x l l.length = (List.range (l.length + 1)).any fun j => takesT x.before (l.take j) && takesT x.after (l.drop j) := by
  unfold tellsB
  rw [Int.toNat_natCast, List.take_length, show decide ((0 : Int) ≤ (l.length : Int)) = true by rw [decide_eq_true_eq]; omega, show decide ((l.length : Int) ≤ (l.length : Int)) = true by simp]
  rfl
def breakFrom (r : Rs) (l : List Int) (i k : Nat) : Bool := match (r.list.drop k).find? (fun x => tellsB x l i) with
  | some x => x.brk
  | none => r.els
theorem breakFrom_zero (r : Rs) (l : List Int) (i : Nat) : breakFrom r l i 0 = breakB r l i := rfl
theorem breakFrom_end (r : Rs) (l : List Int) (i : Nat) : breakFrom r l i r.list.length = r.els := by simp [breakFrom]
theorem breakFrom_step {r : Rs} {l : List Int} {i k : Nat} (h : k < r.list.length) : breakFrom r l i k = if tellsB (r.list.getD k default) l i then (r.list.getD k default).brk else breakFrom r l i (k + 1) := by
  unfold breakFrom
  have e : r.list.drop k = r.list.getD k default :: r.list.drop (k + 1) := by
    rw [List.drop_eq_getElem_cons h, List.getD_eq_getElem?_getD, List.getElem?_eq_getElem h]; rfl
  rw [e, List.find?_cons]
  cases tellsB (r.list.getD k default) l i <;> simp
end Go.Proofs.Abs

set_option maxRecDepth 100000
namespace Go.Proofs.Abs
open Go
def withL (r : Rs) (L : List Rl) (e : Bool) : Rs := ⟨r.names, L, e⟩
theorem break_none {r : Rs} {A B : List Rl} {x : Rl} {e : Bool} {l : List Int} {i : Nat} (h : tellsB x l i = false) : breakB (withL r (A ++ [x] ++ B) e) l i = breakB (withL r (A ++ B) e) l i := by
  unfold breakB withL
  simp only [List.find?_append, List.find?_cons, h, List.find?_nil, Option.or_none]
theorem break_all {r : Rs} {A B : List Rl} {x : Rl} {e e' : Bool} {l : List Int} {i : Nat} (h : tellsB x l i = true) : breakB (withL r (A ++ [x] ++ B) e) l i = breakB (withL r (A ++ [x]) e') l i := by
  unfold breakB withL
  simp only [List.find?_append, List.find?_cons, h, List.find?_nil]
  cases A.find? fun x => tellsB x l (i : Int) <;> rfl
theorem break_swap {r : Rs} {A B : List Rl} {x y : Rl} {e : Bool} {l : List Int} {i : Nat} (h : x.brk = y.brk) : breakB (withL r (A ++ [x, y] ++ B) e) l i = breakB (withL r (A ++ [y, x] ++ B) e) l i := by
  unfold breakB withL
  simp only [List.find?_append, List.find?_cons, List.find?_nil]
  cases A.find? fun x => tellsB x l (i : Int) with
  | some z => rfl
  | none => cases tellsB x l i <;> cases tellsB y l i <;> simp [h]
def flipL (x : Rl) : Rl := ⟨x.before, x.after, !x.brk⟩
theorem tells_flip (x : Rl) (l : List Int) (i : Int) : tellsB (flipL x) l i = tellsB x l i := rfl
theorem break_flip {r : Rs} {L : List Rl} {e : Bool} {l : List Int} {i : Nat} : breakB (withL r (L.map flipL) (!e)) l i = !breakB (withL r L e) l i := by
  unfold breakB withL
  simp only [List.find?_map]
  have : ((fun x => tellsB x l (i : Int)) ∘ flipL) = fun x => tellsB x l (i : Int) := rfl
  rw [this]
  cases L.find? fun x => tellsB x l (i : Int) <;> rfl
theorem breaks_congr {r s : Rs} {l : List Int} (h : ∀ i, i ≤ l.length → breakB r l i = breakB s l i) : breaksL r l = breaksL s l := by
  unfold breaksL
  congr 1
  refine List.filter_congr fun i hi => ?_
  rw [List.mem_range] at hi
  exact h i (by omega)
def cntF (f : Nat → Bool) (p : Nat) : Nat := ((List.range p).filter f).length
theorem cntF_succ (f : Nat → Bool) (p : Nat) : cntF f (p + 1) = cntF f p + if f p then 1 else 0 := by
  unfold cntF
  rw [List.range_succ, List.filter_append, List.length_append]
  congr 1
  by_cases h : f p = true <;> simp [h]
theorem cntF_le (f : Nat → Bool) {p n : Nat} (h : p ≤ n) : cntF f p ≤ cntF f n := by
  induction n with
  | zero => rw [Nat.le_zero.1 h]; exact Nat.le_refl _
  | succ n ih =>
    by_cases e : p = n + 1
    · rw [e]; exact Nat.le_refl _
    · have := ih (by omega)
      rw [cntF_succ]; omega
theorem filt_get {f : Nat → Bool} {n p : Nat} (hp : p < n) (h : f p = true) : ((List.range n).filter f)[cntF f p]? = some p := by
  induction n with
  | zero => omega
  | succ n ih =>
    rw [List.range_succ, List.filter_append]
    by_cases e : p = n
    · subst e
      have hl : cntF f p = ((List.range p).filter f).length := rfl
      rw [hl, List.getElem?_append_right (Nat.le_refl _), Nat.sub_self]
      simp [h]
    · have h1 := ih (by omega)
      have hlt : cntF f p < ((List.range n).filter f).length := (List.getElem?_eq_some_iff.1 h1).1
      rw [List.getElem?_append_left hlt]
      exact h1
theorem filt_mem {f : Nat → Bool} {n p : Nat} (hp : p < n) (h : ((List.range n).filter f)[cntF f p]? = some p) : f p = true := by
  have := List.mem_of_getElem? h
  rw [List.mem_filter] at this
  exact this.2
theorem breaks_at {r : Rs} {l : List Int} {p : Nat} (hp : p < l.length + 1) : ((breaksL r l)[cntF (breakB r l) p]? = some ((p : Nat) : Int)) ↔ breakB r l p = true := by
  unfold breaksL
  rw [List.getElem?_map]
  constructor
  · intro h
    rw [Option.map_eq_some_iff] at h
    obtain ⟨q, h1, h2⟩ := h
    have : q = p := by omega
    subst this
    exact filt_mem hp h1
  · intro h
    rw [filt_get hp h]; rfl
theorem breaks_len (r : Rs) (l : List Int) : (breaksL r l).length = cntF (breakB r l) (l.length + 1) := by simp [breaksL, cntF]
theorem cntF_true {f : Nat → Bool} (h : ∀ i, f i = true) (n : Nat) : cntF f n = n := by
  induction n with
  | zero => rfl
  | succ n ih => rw [cntF_succ, ih, h]; rfl
theorem cntF_false {f : Nat → Bool} (h : ∀ i, f i = false) (n : Nat) : cntF f n = 0 := by
  induction n with
  | zero => rfl
  | succ n ih => rw [cntF_succ, ih, h]; rfl
def allSet : List (Int × Int) := [(0, 1114111)]
def allTree : List Nd := [⟨2, 0, 0, allSet, ⟨#[]⟩⟩, ⟨5, 0, 0, [], ⟨#[]⟩⟩]
theorem has_all {v : Int} (h : isS v = true) : hasS allSet v = true := by
  have g : goodS allSet = true := by decide
  simp only [isS, Bool.or_eq_true, Bool.and_eq_true, decide_eq_true_eq] at h
  unfold hasS
  rw [g]
  have h2 : isS v = true := by simp only [isS, Bool.or_eq_true, Bool.and_eq_true, decide_eq_true_eq]; exact h
  rw [h2]
  simp only [allSet, List.length_cons, List.length_nil, Bool.true_and, Nat.zero_add, List.range_one, List.any_cons, List.any_nil, Bool.or_false, List.getD_cons_zero, inR, Bool.and_eq_true, decide_eq_true_eq]
  omega
def leafAll : Nd := ⟨2, 0, 0, allSet, ⟨#[]⟩⟩
theorem allTree_eq : allTree = starT [leafAll] := rfl
theorem good_leafAll : goodT [leafAll] = true := by decide
theorem good_allTree : goodT allTree = true := good_star good_leafAll (by decide)
theorem takesAllG {t : List Nd} {l : List Int} (g : goodT t = true) : takesT t l = tk t l (t.length - 1) 0 l.length := takes_all g
theorem takes_allT : ∀ l : List Int, l.all isS = true → takesT allTree l = true
  | [], _ => by
    rw [allTree_eq, takes_star good_leafAll (by decide)]
    simp [starF]
  | v :: r, h => by
    rw [List.all_cons, Bool.and_eq_true] at h
    have ih := takes_allT r h.2
    have e1 : takesT [leafAll] [v] = true := by
      rw [takesAllG good_leafAll]
      have e : ([leafAll] : List Nd).getD ([leafAll].length - 1) default = leafAll := rfl
      rw [tk_one (by rw [e]; rfl), e]
      simp only [Bool.and_eq_true, decide_eq_true_eq]
      exact ⟨rfl, has_all h.1⟩
    rw [allTree_eq, takes_star good_leafAll (by decide)]
    unfold starF
    rw [Bool.or_eq_true]
    refine .inr ?_
    rw [List.any_eq_true]
    refine ⟨1, List.mem_range.2 (by simp), ?_⟩
    simp only [Bool.and_eq_true, decide_eq_true_eq]
    refine ⟨by omega, ?_, ?_⟩
    · rw [← takes_take good_leafAll (by simp)]; exact e1
    · have hl : (starT [leafAll]).length - 1 = [leafAll].length := rfl
      rw [← hl, ← allTree_eq, ← takes_drop good_allTree (by simp)]
      exact ih
def ruleNone (b : Bool) : Rl := ⟨allTree, leafT 0, b⟩
def ruleAll (b : Bool) : Rl := ⟨allTree, leafT 1, b⟩
theorem tells_none (b : Bool) (l : List Int) (i : Int) : tellsB (ruleNone b) l i = false := by
  unfold tellsB ruleNone
  have : ((List.range (i.toNat + 1)).any fun k => takesT allTree (l.take k) && takesT (leafT 0) ((l.take i.toNat).drop k)) = false := by
    rw [List.any_eq_false]
    intro k _
    rw [takes_leaf]
    simp
  simp only [this, Bool.and_false]
theorem tells_all {b : Bool} {l : List Int} {i : Nat} (h : i ≤ l.length) (hs : l.all isS = true) : tellsB (ruleAll b) l i = true := by
  unfold tellsB ruleAll
  have e1 : decide ((0 : Int) ≤ (i : Int)) = true := by rw [decide_eq_true_eq]; omega
  have e2 : decide ((i : Int) ≤ (l.length : Int)) = true := by rw [decide_eq_true_eq]; omega
  rw [e1, e2, Bool.true_and, Bool.true_and, Int.toNat_natCast, List.any_eq_true]
  refine ⟨i, List.mem_range.2 (by omega), ?_⟩
  rw [Bool.and_eq_true]
  refine ⟨takes_allT _ ?_, ?_⟩
  · rw [List.all_eq_true] at hs ⊢
    intro v hv
    exact hs v (List.mem_of_mem_take hv)
  · rw [takes_leaf]
    simp
end Go.Proofs.Abs

set_option maxRecDepth 100000
set_option maxHeartbeats 16000000
namespace Go.Proofs.Abs
open Go
noncomputable def n0 : FT := upd (w1) 45 k18.ora
theorem n0_ok : FTOK Tryz.prog n0 := upd_ok2 (f := 45) (w1_ok) ook18

def wNm (x : Nm) : Nat := 1 + min x.set.length 600 + min (x.name.size / 8) 600
def runM : Nat → List Nm → Nat
  | n, [] => n
  | n, x :: r => if n ≤ 600 then runM (n + wNm x) r else n
def largeN (t : List Nm) : Bool := decide (600 < runM 0 t)
theorem nms_cons {t : List Nm} {j : Nat} (h : j < t.length) : t.drop j = t.getD j default :: t.drop (j + 1) := by
  rw [List.drop_eq_getElem_cons h, List.getD_eq_getElem?_getD, List.getElem?_eq_getElem h]; rfl
theorem runM_step (n : Nat) (t : List Nm) (j : Nat) (h : j < t.length) (h2 : n ≤ 600) : runM n (t.drop j) = runM (n + wNm (t.getD j default)) (t.drop (j + 1)) := by
  rw [nms_cons h, runM, if_pos h2]
theorem runM_over (n : Nat) (l : List Nm) (h : ¬ n ≤ 600) : runM n l = n := by cases l <;> simp [runM, h]
theorem runM_ge : ∀ (t : List Nm) (n : Nat), 601 ≤ n + t.length → 601 ≤ runM n t
  | [], n, h => by simpa [runM] using h
  | x :: r, n, h => by
    unfold runM
    split
    · exact runM_ge r _ (by unfold wNm; simp at h ⊢; omega)
    · omega
theorem largeN_len {t : List Nm} (h : largeN t = false) : t.length ≤ 600 := by
  simp only [largeN, decide_eq_false_iff_not] at h
  by_cases h2 : t.length ≤ 600
  · exact h2
  · have := runM_ge t 0 (by omega)
    omega
theorem runM_all : ∀ (t : List Nm) (n : Nat), runM n t ≤ 600 → n ≤ 600 → ∀ x ∈ t, x.set.length < 600 ∧ x.name.size / 8 < 600
  | [], _, _, _, x, hx => by cases hx
  | y :: r, n, h, hn, x, hx => by
    rw [runM, if_pos hn] at h
    have h1 : n + wNm y ≤ 600 := by
      by_cases h2 : n + wNm y ≤ 600
      · exact h2
      · rw [runM_over _ _ h2] at h; exact h
    rcases List.mem_cons.1 hx with rfl | hx
    · unfold wNm at h1; omega
    · exact runM_all r _ h h1 x hx
theorem largeN_all {t : List Nm} (h : largeN t = false) : ∀ x ∈ t, x.set.length < 600 ∧ x.name.size / 8 < 600 := by
  simp only [largeN, decide_eq_false_iff_not] at h
  exact runM_all t 0 (by omega) (by omega)
structure WfNs (t : List Nm) : Prop where
  len : t.length ≤ 9223372036854775807
  all : ∀ n ∈ t, WfM n
theorem run1258 (t : List Nm) (hd : WfNs t) : cwp n0 60 [] [(AV.list 2 (List.map eNm (t)))] [] (fun v H => v = .bool (largeN t) ∧ H = []) := by
  refine run_fn (fn := fn1258) rfl rfl ?_
  have htl := hd.len
  have hw := hd.all
  simp only [fn1258_body, c1258, D0, SP0, seval, -Int.reduceNatCast']
  refine lg_rule (fun j e H => ∃ n : Nat, e = [(0, (AV.list 2 (List.map eNm (t)))), (2, .bool false), (3, .int .i64 n), (4, .int .i64 j)] ∧ H = [[]] ∧ j ≤ t.length ∧ n ≤ 1801 ∧ runM n (t.drop j) = runM 0 t) t.length ?_ ?_
  · exact ⟨0, rfl, rfl, by simp, by simp, by simp⟩
  rintro j e H ⟨n, rfl, rfl, hj, hn, hr⟩
  simp only [D0, SP0, seval, -Int.reduceNatCast']
  by_cases h : j < t.length
  · have h' : (j : Int) < (t.length : Int) := by omega
    have hg := map_get (f := eNm) h default
    have hp := wrapp (j := j) (by omega)
    by_cases h2 : n ≤ 600
    · have h2' : (n : Int) ≤ 600 := by omega
      simp only [D0, SP0, seval, -Int.reduceNatCast', h', decide_true, h2', hg, eNm, Int.natCast_nonneg, Int.toNat_natCast]
      refine .inl ⟨h, n + wNm (t.getD j default), ?_, rfl, h, ?_, ?_⟩
      · have hb : (t.getD j default).name.size ≤ 9223372036854775807 := (hw _ (by
          rw [List.getD_eq_getElem?_getD, List.getElem?_eq_getElem h]
          exact List.getElem_mem h)).name
        simp (disch := omega) only [min600, tdiv8, wrap64]
        simp only [wNm]
        have e1 : (n : Int) + (1 + ((min (t.getD j default).set.length 600 : Nat) : Int) + ((min ((t.getD j default).name.size / 8) 600 : Nat) : Int)) = ((n + (1 + min (t.getD j default).set.length 600 + min ((t.getD j default).name.size / 8) 600) : Nat) : Int) := by omega
        have e2 : (j : Int) + 1 = ((j + 1 : Nat) : Int) := by omega
        simp only [e1, e2, and_self]
      · unfold wNm; omega
      · rw [← hr, runM_step n t j h h2]
    · have h2' : ¬ (n : Int) ≤ 600 := by omega
      simp only [D0, SP0, seval, -Int.reduceNatCast', h', decide_true, h2', decide_false]
      refine .inr ⟨by simp, ?_⟩
      simp only [F1, SF0, SP0, seval, -Int.reduceNatCast', fn1258_res, fn1258_keep]
      rw [runM_over n _ h2] at hr
      rw [largeN, ← hr]
      congr 2
      simp
      omega
  · have h' : ¬ (j : Int) < (t.length : Int) := by omega
    simp only [D0, SP0, seval, -Int.reduceNatCast', h', decide_false]
    refine .inr ⟨by simp, ?_⟩
    simp only [F1, SF0, SP0, seval, -Int.reduceNatCast', fn1258_res, fn1258_keep]
    have hz : t.drop j = [] := List.drop_eq_nil_of_le (by omega)
    rw [hz, runM] at hr
    rw [largeN, ← hr]
    congr 2
    simp
    omega
theorem nmsInj {a b : List Nm} (h : [(AV.list 2 (List.map eNm (a)))] = [(AV.list 2 (List.map eNm (b)))]) : a = b := by
  simp only [List.cons.injEq, AV.list.injEq, and_true, true_and] at h
  exact eNms_inj h
theorem rulesInj {a b : Rs} (h : [(AV.agg [(AV.list 2 (List.map eNm (Rs.names a))), (AV.list 3 (List.map eRl (Rs.list a))), AV.bool (Rs.els a)])] = [(AV.agg [(AV.list 2 (List.map eNm (Rs.names b))), (AV.list 3 (List.map eRl (Rs.list b))), AV.bool (Rs.els b)])]) : a = b := rules_inj (by simpa using h)
noncomputable def k1258 : Kon (List Nm) := ⟨fun x => WfNs x, fun x => [(AV.list 2 (List.map eNm (x)))], fun x => .bool (largeN x)⟩
theorem e1258 (t : List Nm) (hd : WfNs t) (q0 : Id) (H0 : Heap) : k1258.ora q0 ([(AV.list 2 (List.map eNm (t)))]) H0 = some (.bool (largeN t), H0) := k1258.eq (fun _ _ h => nmsInj h) (t) hd q0 H0
theorem ook1258 : OraOK Tryz.prog (60 % 100000) k1258.ora := k1258.ok orders n0_ok (fun x hd => by simp [k1258, PU]) (fun x hd => by simp [k1258, PU]) (fun x hd => run1258 x hd)

noncomputable def n1 : FT := upd (n0) 60 k1258.ora
theorem n1_ok : FTOK Tryz.prog n1 := upd_ok2 (f := 60) (n0_ok) ook1258

def nodesL (l : List Rl) : Nat := (l.map fun x => x.before.length + x.after.length).sum
def largeR (r : Rs) : Bool := largeN r.names || decide (60 < r.list.length) || r.list.any (fun x => large x.before || large x.after) || decide (1500 < nodesL r.list)
theorem nodes_snoc {l : List Rl} {j : Nat} (h : j < l.length) : nodesL (l.take (j + 1)) = nodesL (l.take j) + ((l.getD j default).before.length + (l.getD j default).after.length) := by
  have : l.take (j + 1) = l.take j ++ [l.getD j default] := by
    rw [List.getD_eq_getElem?_getD, List.getElem?_eq_getElem h]; simp
  rw [this]; simp [nodesL]
theorem run1240 (r : Rs) (hw : WfR r) : cwp n1 28 [] [(AV.agg [(AV.list 2 (List.map eNm (Rs.names r))), (AV.list 3 (List.map eRl (Rs.list r))), AV.bool (Rs.els r)])] [] (fun v H => v = .bool (largeR r) ∧ H = []) := by
  refine run_fn (fn := fn1240) rfl rfl ?_
  obtain ⟨names, list, els⟩ := r
  obtain ⟨wn, wl⟩ := hw
  simp only at wn wl
  have wn : WfNs names := ⟨wn.1, wn.2⟩
  cases e1 : largeN names with
  | true =>
    simp only [fn1240_body, c1240, D0, SP0, seval, -Int.reduceNatCast', @use_all n1 60 k1258.ora rfl, e1258, wn, e1]
    simp only [F1, SF0, SP0, seval, -Int.reduceNatCast', fn1240_res, fn1240_keep]
    simp [largeR, e1]
  | false =>
    by_cases h2 : (list.length : Int) > 60
    · simp only [fn1240_body, c1240, D0, SP0, seval, -Int.reduceNatCast', @use_all n1 60 k1258.ora rfl, e1258, wn, e1, h2, decide_true]
      simp only [F1, SF0, SP0, seval, -Int.reduceNatCast', fn1240_res, fn1240_keep]
      simp [largeR, e1, show 60 < list.length by omega]
    · simp only [fn1240_body, c1240, D0, SP0, seval, -Int.reduceNatCast', @use_all n1 60 k1258.ora rfl, e1258, wn, e1, h2, decide_false]
      refine lg_rule (fun j e H => ∃ n : Nat, e = [(0, AV.agg [AV.list 2 (List.map eNm names), AV.list 3 (List.map eRl list), AV.bool els]), (1, AV.ref [0] 1 0 0), (2, AV.bool false), (3, AV.int IntKind.i64 n), (4, AV.int IntKind.i64 j)] ∧ H = [[([0], AObj.box [AV.list 2 (List.map eNm names), AV.list 3 (List.map eRl list), AV.bool els])]] ∧ j ≤ list.length ∧ n = nodesL (list.take j) ∧ n ≤ 1200 * j ∧ ∀ x ∈ list.take j, large x.before = false ∧ large x.after = false) list.length ?_ ?_
      · exact ⟨0, rfl, rfl, by simp, by simp [nodesL], by simp, by simp⟩
      rintro j e H ⟨n, rfl, rfl, hj, hn, hb, ha⟩
      by_cases h : j < list.length
      · have h' : (j : Int) < (list.length : Int) := by omega
        have hp := wrapp (j := j) (by omega)
        have hg := map_get (f := eRl) h default
        have hmem : list.getD j default ∈ list := by rw [List.getD_eq_getElem?_getD, List.getElem?_eq_getElem h]; exact List.getElem_mem h
        obtain ⟨wb, wa⟩ := wl.2 _ hmem
        have hs := nodes_snoc h
        have htk : list.take (j + 1) = list.take j ++ [list.getD j default] := by
          rw [List.getD_eq_getElem?_getD, List.getElem?_eq_getElem h]; simp
        generalize list.getD j default = x at hg hs hmem wb wa htk
        obtain ⟨b, a, k⟩ := x
        simp only at hs wb wa hmem
        have bad : large b = true ∨ large a = true → largeR ⟨names, list, els⟩ = true := fun hh => by
          have : (list.any fun x => large x.before || large x.after) = true := List.any_eq_true.2 ⟨_, hmem, by simpa using hh⟩
          simp [largeR, this]
        cases e2 : large b with
        | true =>
          have bad := bad (.inl e2)
          simp only [D0, SP0, seval, -Int.reduceNatCast', @use_all n1 61 k16.ora rfl, e16, eRl, h', hg, hp, wb, wa, e2, decide_true, Int.natCast_nonneg, Int.toNat_natCast]
          refine .inr ⟨by simp, ?_⟩
          simp only [F1, SF0, SP0, seval, -Int.reduceNatCast', fn1240_res, fn1240_keep, bad]
        | false =>
          cases e3 : large a with
          | true =>
            have bad := bad (.inr e3)
            simp only [D0, SP0, seval, -Int.reduceNatCast', @use_all n1 61 k16.ora rfl, e16, eRl, h', hg, hp, wb, wa, e2, e3, decide_true, Int.natCast_nonneg, Int.toNat_natCast]
            refine .inr ⟨by simp, ?_⟩
            simp only [F1, SF0, SP0, seval, -Int.reduceNatCast', fn1240_res, fn1240_keep, bad]
          | false =>
            have l1 := large_len e2
            have l2 := large_len e3
            have w1 : IntKind.i64.wrap ((b.length : Int) + (a.length : Int)) = ((b.length + a.length : Nat) : Int) := by rw [wrap64] <;> omega
            have w2 : IntKind.i64.wrap ((n : Int) + ((b.length + a.length : Nat) : Int)) = ((n + (b.length + a.length) : Nat) : Int) := by rw [wrap64] <;> omega
            simp only [D0, SP0, seval, -Int.reduceNatCast', @use_all n1 61 k16.ora rfl, e16, eRl, h', hg, hp, wb, wa, e2, e3, w1, w2, decide_true, Int.natCast_nonneg, Int.toNat_natCast]
            simp only [F1, SF0, SP0, seval, -Int.reduceNatCast']
            refine ⟨h, n + (b.length + a.length), rfl, h, by rw [hs, hn], by omega, fun x hx => ?_⟩
            rw [htk, List.mem_append] at hx
            rcases hx with hx | hx
            · exact ha x hx
            · rw [List.mem_singleton.1 hx]; exact ⟨e2, e3⟩
      · have h' : ¬ (j : Int) < (list.length : Int) := by omega
        have hjl : j = list.length := by omega
        subst hjl
        rw [List.take_length] at hn ha
        have hany : (list.any fun x => large x.before || large x.after) = false := by
          rw [List.any_eq_false]; intro x hx; simp [ha x hx]
        have hr : largeR ⟨names, list, els⟩ = decide ((n : Int) > 1500) := by
          have a1 : ¬ 60 < list.length := by omega
          by_cases h5 : 1500 < nodesL list
          · have : (n : Int) > 1500 := by omega
            simp [largeR, e1, hany, a1, h5, this]
          · have : ¬ (n : Int) > 1500 := by omega
            simp [largeR, e1, hany, a1, h5]; omega
        simp only [D0, SP0, seval, -Int.reduceNatCast', h', decide_false]
        refine .inr ⟨by simp, ?_⟩
        simp only [F1, SF0, SP0, seval, -Int.reduceNatCast', fn1240_res, fn1240_keep, hr]
noncomputable def k1240 : Kon (Rs) := ⟨fun x => WfR x, fun x => [(AV.agg [(AV.list 2 (List.map eNm (Rs.names x))), (AV.list 3 (List.map eRl (Rs.list x))), AV.bool (Rs.els x)])], fun x => .bool (largeR x)⟩
theorem e1240 (r : Rs) (hd : WfR r) (q0 : Id) (H0 : Heap) : k1240.ora q0 ([(AV.agg [(AV.list 2 (List.map eNm (Rs.names r))), (AV.list 3 (List.map eRl (Rs.list r))), AV.bool (Rs.els r)])]) H0 = some (.bool (largeR r), H0) := k1240.eq (fun _ _ h => rulesInj h) (r) hd q0 H0
theorem ook1240 : OraOK Tryz.prog (28 % 100000) k1240.ora := k1240.ok orders n1_ok (fun x hd => by simp [k1240, PU]) (fun x hd => by simp [k1240, PU]) (fun x hd => run1240 x hd)

theorem largeR_all {r : Rs} (h : largeR r = false) : largeN r.names = false ∧ r.list.length ≤ 60 ∧ (∀ x ∈ r.list, large x.before = false ∧ large x.after = false) ∧ nodesL r.list ≤ 1500 := by
  simp only [largeR, Bool.or_eq_false_iff, decide_eq_false_iff_not, List.any_eq_false, Bool.or_eq_true, not_or, Bool.not_eq_true] at h
  exact ⟨h.1.1.1, by omega, h.1.2, by omega⟩
theorem nodesL_take : ∀ (l : List Rl) (j : Nat), nodesL (l.take j) ≤ nodesL l
  | [], j => by simp [nodesL]
  | x :: r, 0 => by simp [nodesL]
  | x :: r, j + 1 => by
    have := nodesL_take r j
    simp only [nodesL, List.take_succ_cons, List.map_cons, List.sum_cons] at this ⊢
    omega
structure NodesD (r : Rs) : Prop where
  n : nodesL r.list ≤ 1000000
  l : r.list.length ≤ 1000000
theorem run1241 (r : Rs) (hd : NodesD r) : cwp n1 30 [] [(AV.agg [(AV.list 2 (List.map eNm (Rs.names r))), (AV.list 3 (List.map eRl (Rs.list r))), AV.bool (Rs.els r)])] [] (fun v H => v = .int .i64 (nodesL r.list : Nat) ∧ H = []) := by
  refine run_fn (fn := fn1241) rfl rfl ?_
  obtain ⟨names, list, els⟩ := r
  obtain ⟨hN, hL⟩ := hd
  simp only at hN hL
  simp only [fn1241_body, c1241, D0, SP0, seval, -Int.reduceNatCast']
  refine lg_rule (fun j e H => ∃ n : Nat, e = [(0, AV.agg [AV.list 2 (List.map eNm names), AV.list 3 (List.map eRl list), AV.bool els]), (1, AV.ref [0] 1 0 0), (2, AV.int IntKind.i64 0), (3, AV.int IntKind.i64 n), (4, AV.int IntKind.i64 j)] ∧ H = [[([0], AObj.box [AV.list 2 (List.map eNm names), AV.list 3 (List.map eRl list), AV.bool els])]] ∧ j ≤ list.length ∧ n = nodesL (list.take j)) list.length ?_ ?_
  · exact ⟨0, rfl, rfl, by simp, by simp [nodesL]⟩
  rintro j e H ⟨n, rfl, rfl, hj, hn⟩
  by_cases h : j < list.length
  · have h' : (j : Int) < (list.length : Int) := by omega
    have hp := wrapp (j := j) (by omega)
    have hg := map_get (f := eRl) h default
    have hs := nodes_snoc h
    have hk := nodesL_take list (j + 1)
    generalize list.getD j default = x at hg hs
    obtain ⟨b, a, k⟩ := x
    simp only at hs
    have w1 : IntKind.i64.wrap ((b.length : Int) + (a.length : Int)) = ((b.length + a.length : Nat) : Int) := by rw [wrap64] <;> omega
    have w2 : IntKind.i64.wrap ((n : Int) + ((b.length + a.length : Nat) : Int)) = ((n + (b.length + a.length) : Nat) : Int) := by rw [wrap64] <;> omega
    simp only [D0, SP0, seval, -Int.reduceNatCast', eRl, h', hg, hp, w1, w2, decide_true, Int.natCast_nonneg, Int.toNat_natCast]
    simp only [F1, SF0, SP0, seval, -Int.reduceNatCast']
    exact ⟨h, n + (b.length + a.length), rfl, h, by rw [hs, hn]⟩
  · have h' : ¬ (j : Int) < (list.length : Int) := by omega
    have hjl : j = list.length := by omega
    subst hjl
    rw [List.take_length] at hn
    simp only [D0, SP0, seval, -Int.reduceNatCast', h', decide_false]
    refine .inr ⟨by simp, ?_⟩
    simp only [F1, SF0, SP0, seval, -Int.reduceNatCast', fn1241_res, fn1241_keep, hn]
noncomputable def k1241 : Kon (Rs) := ⟨fun x => NodesD x, fun x => [(AV.agg [(AV.list 2 (List.map eNm (Rs.names x))), (AV.list 3 (List.map eRl (Rs.list x))), AV.bool (Rs.els x)])], fun x => .int .i64 (nodesL x.list : Nat)⟩
theorem e1241 (r : Rs) (hd : NodesD r) (q0 : Id) (H0 : Heap) : k1241.ora q0 ([(AV.agg [(AV.list 2 (List.map eNm (Rs.names r))), (AV.list 3 (List.map eRl (Rs.list r))), AV.bool (Rs.els r)])]) H0 = some (.int .i64 (nodesL r.list : Nat), H0) := k1241.eq (fun _ _ h => rulesInj h) (r) hd q0 H0
theorem ook1241 : OraOK Tryz.prog (30 % 100000) k1241.ora := k1241.ok orders n1_ok (fun x hd => by simp [k1241, PU]) (fun x hd => by simp [k1241, PU]) (fun x hd => run1241 x hd)

noncomputable def n2 : FT := upd (upd (n1) 28 k1240.ora) 30 k1241.ora
theorem n2_ok : FTOK Tryz.prog n2 := upd_ok2 (f := 30) (upd_ok2 (f := 28) (n1_ok) ook1240) ook1241

def lightR (r : Rs) (l : List Int) : Bool := !largeR r && decide (l.length ≤ 8) && decide (nodesL r.list ≤ 400)
theorem rulesRowInj {a b : Rs × List Int} (h : [(AV.agg [(AV.list 2 (List.map eNm (Rs.names a.1))), (AV.list 3 (List.map eRl (Rs.list a.1))), AV.bool (Rs.els a.1)]), (AV.list 1 (List.map (fun x => [AV.int .i64 x]) (a.2)))] = [(AV.agg [(AV.list 2 (List.map eNm (Rs.names b.1))), (AV.list 3 (List.map eRl (Rs.list b.1))), AV.bool (Rs.els b.1)]), (AV.list 1 (List.map (fun x => [AV.int .i64 x]) (b.2)))]) : a = b := by
  simp only [List.cons.injEq, and_true] at h
  refine Prod.ext (rules_inj h.1) ?_
  have := h.2
  simp only [AV.list.injEq, true_and] at this
  exact map_inj' (fun x y h => by simpa using h) this
structure WfRow (l : List Int) : Prop where
  len : l.length ≤ 9223372036854775807
theorem fz_rules (H : Heap) (a : Nat) (l : List (List AV)) (b : Nat) (m : List (List AV)) (c : Bool) : fz H (.agg [.list a l, .list b m, .bool c]) = some (.agg [.list a l, .list b m, .bool c], H) := rfl
theorem fz_nm (H : Heap) (z : ByteArray) (b : Nat) (m : List (List AV)) : fz H (.agg [.str z, .list b m]) = some (.agg [.str z, .list b m], H) := rfl
theorem run1229 (r : Rs) (l : List Int) (hw : WfR r) (hl : WfRow l) : cwp n2 11 [] [(AV.agg [(AV.list 2 (List.map eNm (Rs.names r))), (AV.list 3 (List.map eRl (Rs.list r))), AV.bool (Rs.els r)]), (AV.list 1 (List.map (fun x => [AV.int .i64 x]) (l)))] [] (fun v H => v = .bool (lightR r l) ∧ H = []) := by
  refine run_fn (fn := fn1229) rfl rfl ?_
  cases e : largeR r with
  | true =>
    have hr : lightR r l = false := by simp [lightR, e]
    simp only [fn1229_body, c1229, D0, SP0, seval, -Int.reduceNatCast', @use_all n2 28 k1240.ora rfl, e1240, fz_rules, hw, e]
    simp only [F1, SF0, SP0, seval, -Int.reduceNatCast', fn1229_res, fn1229_keep, hr]
  | false =>
    obtain ⟨q1, q2, q3, q4⟩ := largeR_all e
    have hd : NodesD r := ⟨by omega, by omega⟩
    by_cases h1 : (l.length : Int) ≤ 8
    · by_cases h2 : ((nodesL r.list : Nat) : Int) ≤ 400
      · have hr : lightR r l = true := by simp [lightR, e]; omega
        simp only [fn1229_body, c1229, D0, SP0, seval, -Int.reduceNatCast', @use_all n2 28 k1240.ora rfl, e1240, @use_all n2 30 k1241.ora rfl, e1241, fz_rules, hw, hd, e, h1, h2, decide_true]
        simp only [F1, SF0, SP0, seval, -Int.reduceNatCast', fn1229_res, fn1229_keep, hr]
      · have hr : lightR r l = false := by simp [lightR, e]; omega
        simp only [fn1229_body, c1229, D0, SP0, seval, -Int.reduceNatCast', @use_all n2 28 k1240.ora rfl, e1240, @use_all n2 30 k1241.ora rfl, e1241, fz_rules, hw, hd, e, h1, h2, decide_true, decide_false]
        simp only [F1, SF0, SP0, seval, -Int.reduceNatCast', fn1229_res, fn1229_keep, hr]
    · have hr : lightR r l = false := by simp [lightR, e]; omega
      simp only [fn1229_body, c1229, D0, SP0, seval, -Int.reduceNatCast', @use_all n2 28 k1240.ora rfl, e1240, fz_rules, hw, e, h1, decide_false]
      simp only [F1, SF0, SP0, seval, -Int.reduceNatCast', fn1229_res, fn1229_keep, hr]
noncomputable def k1229 : Kon (Rs × List Int) := ⟨fun x => WfR x.1 ∧ WfRow x.2, fun x => [(AV.agg [(AV.list 2 (List.map eNm (Rs.names x.1))), (AV.list 3 (List.map eRl (Rs.list x.1))), AV.bool (Rs.els x.1)]), (AV.list 1 (List.map (fun x => [AV.int .i64 x]) (x.2)))], fun x => .bool (lightR x.1 x.2)⟩
theorem e1229 (r : Rs) (l : List Int) (hd : WfR r ∧ WfRow l) (q0 : Id) (H0 : Heap) : k1229.ora q0 ([(AV.agg [(AV.list 2 (List.map eNm (Rs.names r))), (AV.list 3 (List.map eRl (Rs.list r))), AV.bool (Rs.els r)]), (AV.list 1 (List.map (fun x => [AV.int .i64 x]) (l)))]) H0 = some (.bool (lightR r l), H0) := k1229.eq (fun _ _ h => rulesRowInj h) (r, l) hd q0 H0
theorem ook1229 : OraOK Tryz.prog (11 % 100000) k1229.ora := k1229.ok orders n2_ok (fun x hd => by simp [k1229, PU]) (fun x hd => by simp [k1229, PU]) (fun x hd => run1229 x.1 x.2 hd.1 hd.2)

theorem lrc_y (cs : List Nat) (i : Nat) (f : Id → Bool) (p : List Nat) (m : Id) (l : List Rec) : lrc cs i (⟨.y f, p, m⟩ :: l) = false := rfl
theorem take_snocN {t : List Nm} {j : Nat} (h : j < t.length) : t.take j ++ [t.getD j default] = t.take (j + 1) := by
  rw [List.getD_eq_getElem?_getD, List.getElem?_eq_getElem h]; simp
structure NmsD (t : List Nm) : Prop where
  all : ∀ n ∈ t, n.set.length ≤ 600
  len : t.length ≤ 1000000
theorem run1252 (t : List Nm) (hd : NmsD t) : cwp n2 44 [] [(AV.list 2 (List.map eNm (t)))] [] (fun r H => r = (AV.list 2 (List.map eNm (t))) ∧ H = []) := by
  refine run_fn (fn := fn1252) rfl rfl ?_
  have ht := hd.all
  have hl := hd.len
  simp only [fn1252_body, c1252, D0, SP0, seval, -Int.reduceNatCast']
  refine lg_rule (fun j e H => e = [(0, (AV.list 2 (List.map eNm (t)))), (2, .own [0] 0), (3, .own [1] j), (4, .int .i64 j)] ∧ H = [[([1], .row true true 96 2 (List.map eNm (t.take j))), ([0], .row true true 96 2 [])]] ∧ j ≤ t.length) t.length ?_ ?_
  · exact ⟨rfl, rfl, by simp⟩
  rintro j e H ⟨rfl, rfl, hj⟩
  by_cases h : j < t.length
  · have h' : (j : Int) < (t.length : Int) := by omega
    have hp := wrapp (j := j) (by omega)
    have hg := map_get (f := eNm) h default
    have hm : t.getD j default ∈ t := by rw [List.getD_eq_getElem?_getD, List.getElem?_eq_getElem h]; exact List.getElem_mem h
    have hs := ht _ hm
    have hsn := take_snocN h
    have hlt : (t.take j).length = j := by simp; omega
    have hc2 : (j + 1) * 40 ≤ 140737488355328 := by omega
    generalize t.getD j default = n at hg hs hsn
    obtain ⟨z, c⟩ := n
    simp only at hs
    have hc1 : c.length * 16 ≤ 140737488355328 := by omega
    have hsn' : List.map eNm (t.take j) ++ [[AV.str z, (AV.list 2 (List.map (fun x => [AV.int .i64 x.1, AV.int .i64 x.2]) c))]] = List.map eNm (t.take (j + 1)) := by
      rw [← hsn, List.map_append]; rfl
    simp only [D0, SP0, seval, -Int.reduceNatCast', h', hg, eNm, hc1, hc2, hlt, fz, fzd, fzd.fzcells, hp, Nat.zero_add, decide_true, Int.natCast_nonneg, Int.toNat_natCast]
    simp only [D0, SP0, seval, -Int.reduceNatCast', lrc_y, apx, apart, apart1, needs]
    simp only [F1, SF0, SP0, seval, -Int.reduceNatCast', hp, hsn']
    exact ⟨h, h⟩
  · have h' : ¬ (j : Int) < (t.length : Int) := by omega
    have hj2 : j = t.length := by omega
    subst hj2
    simp only [D0, SP0, seval, -Int.reduceNatCast', h', decide_false]
    refine .inr ⟨by simp, ?_⟩
    simp only [F1, SF0, SP0, seval, -Int.reduceNatCast', fn1252_res, fn1252_keep, fz, fzd, List.take_length]
noncomputable def k1252 : Kon (List Nm) := ⟨fun x => NmsD x, fun x => [(AV.list 2 (List.map eNm (x)))], fun x => (AV.list 2 (List.map eNm (x)))⟩
theorem e1252 (t : List Nm) (hd : NmsD t) (q0 : Id) (H0 : Heap) : k1252.ora q0 ([(AV.list 2 (List.map eNm (t)))]) H0 = some ((AV.list 2 (List.map eNm (t))), H0) := k1252.eq (fun _ _ h => nmsInj h) (t) hd q0 H0
theorem ook1252 : OraOK Tryz.prog (44 % 100000) k1252.ora := k1252.ok orders n2_ok (fun x hd => by simp [k1252, PU]) (fun x hd => by simp [k1252, PU]) (fun x hd => run1252 x hd)

noncomputable def n3 : FT := upd (n2) 44 k1252.ora
theorem n3_ok : FTOK Tryz.prog n3 := upd_ok2 (f := 44) (n2_ok) ook1252

end Go.Proofs.Abs

set_option maxRecDepth 100000
set_option maxHeartbeats 16000000
namespace Go.Proofs.Abs
open Go
mutual
theorem beqA_refl : ∀ a : AV, beqA a a = true
  | .undef => rfl
  | .bool a => by simp [beqA]
  | .int k a => by simp [beqA]
  | .str a => by simp [beqA]
  | .nils => rfl
  | .list sz r => by simp [beqA, beqLL_refl r]
  | .own i n => by simp [beqA]
  | .tl i n k => by simp [beqA]
  | .emp => rfl
  | .agg a => by simp [beqA, beqL_refl a]
  | .tuple a => by simp [beqA, beqL_refl a]
  | .nilp => rfl
  | .rp a => by simp [beqA, beqL_refl a]
  | .ref i n j k => by simp [beqA]
  | .nilm => rfl
  | .map i => by simp [beqA]
  | .nilf => rfl
  | .func f c => by simp [beqA, beqL_refl c]
  | .nili => rfl
  | .iface t v => by simp [beqA, beqA_refl v]
theorem beqL_refl : ∀ a : List AV, beqL a a = true
  | [] => rfl
  | a :: r => by simp [beqL, beqA_refl a, beqL_refl r]
theorem beqLL_refl : ∀ a : List (List AV), beqLL a a = true
  | [] => rfl
  | a :: r => by simp [beqLL, beqL_refl a, beqLL_refl r]
end
theorem beqE_refl : ∀ a : List (AV × AV), beqE a a = true
  | [] => rfl
  | (a, b) :: r => by simp [beqE, beqA_refl a, beqA_refl b, beqE_refl r]
theorem beqO_refl (o : AObj) : beqO o o = true := by
  cases o <;> simp [beqO, beqLL_refl, beqL_refl, beqE_refl]
theorem keeps_of {H H' : Heap} {id : Id} {o : AObj} (h : hget H id = some o) (h' : hget H' id = some o) : keeps H H' id = true := by
  simp [keeps, h, h', beqO_refl]
section
variable {ft : FT} {ks : List Kt} {Q : Fin} {s : St} {drop : List Nat} {k : Nat} {d : Option Nat} {r : List AIn} {l : List Rec} {i : AIn}
theorem use_p {ft : FT} {f : Nat} {spec : Id → List AV → Heap → Option (AV × Heap)} (hf : ft f = some (.ora spec)) :
    (∀ a d r k drop ks Q s, rp ft true f a d r k drop ks Q s = rps ft (spec [] a []) d r k drop ks Q s) ∧ (∀ a i r k l drop ks Q s, dp ft true f a i r k l drop ks Q s = dps ft (spec [] a []) i r k l drop ks Q s) :=
  ⟨fun _ _ _ _ _ _ _ _ => rp_spec hf, fun _ _ _ _ _ _ _ _ _ => dp_spec hf⟩
end
theorem pureBB_map {α : Type} {f : α → List AV} : ∀ {l : List α}, (∀ x ∈ l, pureBs (f x) = true) → pureBB (List.map f l) = true
  | [], _ => rfl
  | x :: r, h => by
    rw [List.map_cons, pureBB, h x List.mem_cons_self, pureBB_map fun y hy => h y (List.mem_cons_of_mem _ hy)]; rfl
theorem pb_set (l : List (Int × Int)) : pureBB (List.map (fun x => [AV.int .i64 x.1, AV.int .i64 x.2]) l) = true := pureBB_map fun x _ => rfl
theorem pb_tree (l : List Nd) : pureBB (List.map eNd l) = true := pureBB_map fun x _ => by
  simp [eNd, eSet, pureBs, pureB, pb_set]
theorem pb_nms (l : List Nm) : pureBB (List.map eNm l) = true := pureBB_map fun x _ => by
  simp [eNm, pureBs, pureB, pb_set]
structure TrD (t : List Nd) : Prop where
  all : ∀ n ∈ t, n.set.length ≤ 600
  len : t.length ≤ 1000000
noncomputable def n4 : FT := upd (n3) 45 k18.ora
theorem n4_ok : FTOK Tryz.prog n4 := upd_ok2 (f := 45) (n3_ok) ook18

structure OwnD (r : Rs) : Prop where
  names : NmsD r.names
  all : ∀ x ∈ r.list, TrD x.before ∧ TrD x.after
  len : r.list.length ≤ 1000000
theorem lrc_n (cs : List Nat) (i : Nat) (o : AObj) (p : List Nat) (m : Id) (l : List Rec) : lrc cs i (⟨.n o, p, m⟩ :: l) = false := rfl
theorem run1231 (r : Rs) (hd : OwnD r) : cwp n4 13 [] [(AV.agg [(AV.list 2 (List.map eNm (Rs.names r))), (AV.list 3 (List.map eRl (Rs.list r))), AV.bool (Rs.els r)])] [] (fun v H => v = (AV.agg [(AV.list 2 (List.map eNm (Rs.names r))), (AV.list 3 (List.map eRl (Rs.list r))), AV.bool (Rs.els r)]) ∧ H = []) := by
  refine run_fn (fn := fn1231) rfl rfl ?_
  have wn := hd.names
  have pn := pb_nms r.names
  have i1 : (([8] : Id) == [0]) = false := rfl
  simp only [fn1231_body, c1231, D0, SP0, seval, -Int.reduceNatCast', use_p (ft := n4) (f := 44) (spec := k1252.ora) rfl, e1252, wn, agetl, pureBs, pureB, pn, hins, fins, idk, List.getLast?_cons_cons, List.getLast?_singleton, Option.getD_some, Option.isNone_none, Nat.reduceLT, i1, lrc_y, lrc_n, apx, apart, apart1, needs]
  refine lg_rule (fun j e H => j ≤ r.list.length ∧ ∃ F, e = [(0, AV.agg [AV.list 2 (List.map eNm r.names), AV.list 3 (List.map eRl r.list), AV.bool r.els]), (1, AV.ref [0] 1 0 0), (2, AV.ref [1] 1 0 0), (3, AV.ref [8] 1 0 0), (4, AV.int IntKind.i64 j)] ∧ H = [F] ∧
    fget F [8] = some (.box [AV.list 2 (List.map eNm r.names), (if j = 0 then .nils else .own [11, 0, 29] j), AV.bool r.els]) ∧ fget F [1] = some (.box [AV.nils, AV.nils, AV.bool false]) ∧
    fget F [0] = some (.box [AV.list 2 (List.map eNm r.names), AV.list 3 (List.map eRl r.list), AV.bool r.els]) ∧ (0 < j → fget F [11, 0, 29] = some (.row true true 42 3 (List.map eRl (r.list.take j))))) r.list.length ?_ ?_
  · exact ⟨by simp, _, rfl, rfl, rfl, rfl, rfl, by simp⟩
  rintro j e H ⟨hj, F, rfl, rfl, h8, h1, h0, hR⟩
  have hl := hd.len
  by_cases h : j < r.list.length
  · have h' : (j : Int) < (r.list.length : Int) := by omega
    have hp := wrapp (j := j) (by omega)
    have hg := map_get (f := eRl) h default
    have hm : r.list.getD j default ∈ r.list := by rw [List.getD_eq_getElem?_getD, List.getElem?_eq_getElem h]; exact List.getElem_mem h
    obtain ⟨wb, wa⟩ := hd.all _ hm
    have hsn : List.map eRl (r.list.take j) ++ [eRl (r.list.getD j default)] = List.map eRl (r.list.take (j + 1)) := by
      rw [show r.list.take (j + 1) = r.list.take j ++ [r.list.getD j default] by
        rw [List.getD_eq_getElem?_getD, List.getElem?_eq_getElem h]; simp, List.map_append]; rfl
    generalize r.list.getD j default = x at hg hm wb wa hsn
    obtain ⟨b, a, c⟩ := x
    simp only at wb wa
    have tb : (∀ n ∈ b, n.set.length ≤ 600) ∧ b.length ≤ 1000000 := ⟨wb.all, wb.len⟩
    have ta : (∀ n ∈ a, n.set.length ≤ 600) ∧ a.length ≤ 1000000 := ⟨wa.all, wa.len⟩
    have eb := fun q H => e18 b tb q H
    have ea := fun q H => e18 a ta q H
    have pb := pb_tree b
    have pa := pb_tree a
    by_cases hz : j = 0
    · subst hz
      rw [if_pos rfl] at h8
      simp only [D0, SP0, seval, -Int.reduceNatCast', use_p (ft := n4) (f := 45) (spec := k18.ora) rfl, eb, ea, pb, pa, h0, h8, h1, h', hg, eRl, agetl, pureBs, pureB, fz, fzd, fzd.fzcells, keeps, beqO_refl, lrc_y, lrc_n, apx, apart, apart1, needs, decide_true, Int.natCast_nonneg, Int.toNat_natCast]
      refine .inl ⟨h, h, _, by rw [hp], rfl, ?_, ?_, ?_, fun _ => ?_⟩
      · simp [fget, fget_fset, h8]
      · simp [fget, fget_fset, h1]
      · simp [fget, fget_fset, h0]
      · rw [← hsn]; simp [fget, eRl]
    · rw [if_neg hz] at h8
      have hR := hR (by omega)
      have hlt : (r.list.take j).length = j := by simp; omega
      have hc : (j + 1) * 56 ≤ 140737488355328 := by omega
      have hsn' : List.map eRl (r.list.take j) ++ [[AV.list 5 (List.map eNd b), AV.list 5 (List.map eNd a), AV.bool c]] = List.map eRl (r.list.take (j + 1)) := hsn
      have hq : ∀ o, fget (fset F [11, 0, 29] o) [8] = some (.box [AV.list 2 (List.map eNm r.names), .own [11, 0, 29] j, AV.bool r.els]) := fun o => by
        rw [fget_fset_ne F o (by decide)]; exact h8
      simp only [D0, SP0, seval, -Int.reduceNatCast', use_p (ft := n4) (f := 45) (spec := k18.ora) rfl, eb, ea, pb, pa, h0, h8, h1, hR, hq, hlt, hc, h', hg, eRl, agetl, pureBs, pureB, fz, fzd, fzd.fzcells, keeps, beqO_refl, lrc_y, lrc_n, apx, apart, apart1, needs, decide_true, Int.natCast_nonneg, Int.toNat_natCast]
      refine .inl ⟨h, h, _, by rw [hp], rfl, ?_, ?_, ?_, fun _ => ?_⟩
      · simp [fget, fget_fset, hq, h8]
      · simp [fget, fget_fset, h1]
      · simp [fget, fget_fset, h0]
      · rw [← hsn']; simp [fget, fget_fset, hR]
  · have h' : ¬ (j : Int) < (r.list.length : Int) := by omega
    have hjl : j = r.list.length := by omega
    subst hjl
    have q1 : ∀ o, fget (fset F [1] o) [1] = some o := fun o => by rw [fget_fset]; simp [h1]
    by_cases hz : r.list.length = 0
    · have hnil : r.list = [] := List.length_eq_zero_iff.1 hz
      rw [if_pos hz] at h8
      simp only [D0, SP0, seval, -Int.reduceNatCast', h0, h8, h1, h', decide_false]
      refine .inr ⟨by simp, ?_⟩
      simp only [F1, SF0, SP0, seval, -Int.reduceNatCast', fn1231_res, fn1231_keep, resOf, unnil, q1, hnil, fz, fzd, fzd.fzcells]
    · rw [if_neg hz] at h8
      have hR := hR (by omega)
      rw [List.take_length] at hR
      have q2 : ∀ o, fget (fset F [1] o) [11, 0, 29] = some (.row true true 42 3 (List.map eRl r.list)) := fun o => by
        rw [fget_fset_ne F o (by decide)]; exact hR
      simp only [D0, SP0, seval, -Int.reduceNatCast', h0, h8, h1, h', decide_false]
      refine .inr ⟨by simp, ?_⟩
      simp only [F1, SF0, SP0, seval, -Int.reduceNatCast', fn1231_res, fn1231_keep, resOf, unnil, q1, q2, fz, fzd, fzd.fzcells]
noncomputable def k1231 : Kon (Rs) := ⟨fun x => OwnD x, fun x => [(AV.agg [(AV.list 2 (List.map eNm (Rs.names x))), (AV.list 3 (List.map eRl (Rs.list x))), AV.bool (Rs.els x)])], fun x => (AV.agg [(AV.list 2 (List.map eNm (Rs.names x))), (AV.list 3 (List.map eRl (Rs.list x))), AV.bool (Rs.els x)])⟩
theorem e1231 (r : Rs) (hd : OwnD r) (q0 : Id) (H0 : Heap) : k1231.ora q0 ([(AV.agg [(AV.list 2 (List.map eNm (Rs.names r))), (AV.list 3 (List.map eRl (Rs.list r))), AV.bool (Rs.els r)])]) H0 = some ((AV.agg [(AV.list 2 (List.map eNm (Rs.names r))), (AV.list 3 (List.map eRl (Rs.list r))), AV.bool (Rs.els r)]), H0) := k1231.eq (fun _ _ h => rulesInj h) (r) hd q0 H0
theorem ook1231 : OraOK Tryz.prog (13 % 100000) k1231.ora := k1231.ok orders n4_ok (fun x hd => by simp [k1231, PU]) (fun x hd => by simp [k1231, PU]) (fun x hd => run1231 x hd)

noncomputable def n5 : FT := upd (n4) 13 k1231.ora
theorem n5_ok : FTOK Tryz.prog n5 := upd_ok2 (f := 13) (n4_ok) ook1231

end Go.Proofs.Abs

set_option maxRecDepth 100000
set_option maxHeartbeats 16000000
namespace Go.Proofs.Abs
open Go
noncomputable def n6 : FT := upd (n5) 70 k63.ora
theorem n6_ok : FTOK Tryz.prog n6 := upd_ok2 (f := 70) (n5_ok) ook63

theorem ext_getI {a b : List Int} (hl : a.length = b.length) (h : ∀ i, i < a.length → a.getD i 0 = b.getD i 0) : a = b := ext_getD 0 hl h
theorem run28 (a b : List Nd) (ha : ∀ n ∈ a, n.set.length ≤ 600) (hla : a.length ≤ 9223372036854775807) : cwp n6 51 [] [(AV.list 5 (List.map eNd a)), (AV.list 5 (List.map eNd b))] [] (fun r H => r = .bool (sameT a b) ∧ H = []) := by
  refine run_fn (fn := fn28) rfl rfl ?_
  by_cases hl : a.length = b.length
  · have hl' : ((a.length : Int) != (b.length : Int)) = false := by simp [hl]
    simp only [fn28_body, c28, D0, SP0, seval, -Int.reduceNatCast', hl']
    refine lg_rule (fun j e H => e = [(0, (AV.list 5 (List.map eNd a))), (1, (AV.list 5 (List.map eNd b))), (4, .bool false), (5, .int .i64 j)] ∧ H = [[]] ∧ j ≤ a.length ∧ ∀ i, i < j → sameN (a.getD i default) (b.getD i default) = true) a.length ?_ ?_
    · exact ⟨rfl, rfl, by simp, by simp⟩
    rintro j e H ⟨rfl, rfl, hj, hi⟩
    simp only [D0, SP0, seval, -Int.reduceNatCast']
    by_cases h : j < a.length
    · have h' : (j : Int) < (a.length : Int) := by omega
      have hp := wrapp (j := j) (by omega)
      have hga := map_get (f := eNd) h default
      have hgb := map_get (f := eNd) (l := b) (j := j) (by omega) default
      have hsm := ha _ (getD_mem h)
      have bad : sameN (a.getD j default) (b.getD j default) = false → sameT a b = false := fun h1 => by
        unfold sameT
        rw [all_false h h1, Bool.and_false]
      have step : sameN (a.getD j default) (b.getD j default) = true → ∀ i, i < j + 1 → sameN (a.getD i default) (b.getD i default) = true := fun h1 i h2 => by
        by_cases e : i = j
        · rw [e]; exact h1
        · exact hi i (by omega)
      generalize a.getD j default = x at hga bad step hsm
      generalize b.getD j default = y at hgb bad step
      obtain ⟨k, p, q, c, z⟩ := x
      obtain ⟨k', p', q', c', z'⟩ := y
      simp only at hsm
      have hd : c.length ≤ 9223372036854775807 := by omega
      clear hi
      simp only [D0, SP0, seval, -Int.reduceNatCast', @use_all n6 70 k63.ora rfl, e63, hd, h', hga, hgb, eNd, eSet, hins, fins, idk, List.getLast?_cons_cons, List.getLast?_singleton, Option.getD_some, Option.isNone_none, Nat.reduceLT, lrc_x, apx, apart, apart1, needs, decide_true, Int.natCast_nonneg, Int.toNat_natCast]
      repeat' ((first | refine rw1_nsplit (fun h => ?_) (fun h => ?_) | refine rw1_split (fun h => ?_) (fun h => ?_) | refine dw1_nsplit (fun h => ?_) (fun h => ?_) | refine dw1_split (fun h => ?_) (fun h => ?_) | refine cg2_nsplit (fun h => ?_) (fun h => ?_) | refine cg2_split (fun h => ?_) (fun h => ?_)) <;> simp only [D0, SP0, seval, -Int.reduceNatCast', h, @use_all n6 70 k63.ora rfl, e63, hd, hp])
      all_goals simp only [F1, SF0, SP0, seval, -Int.reduceNatCast', fn28_res, fn28_keep]
      all_goals clear hga hgb hp ha hsm hd
      all_goals first | (rw [bad (by clear bad step; simp_all [sameN])]; done) | exact ⟨by omega, by omega, step (by clear bad step; simp_all [sameN])⟩
    · have h' : ¬ (j : Int) < (a.length : Int) := by omega
      have he : sameT a b = true := by
        unfold sameT
        rw [all_true fun i h1 => hi i (by omega)]
        simp [hl]
      simp only [D0, SP0, seval, -Int.reduceNatCast', h', decide_false]
      refine .inr ⟨by simp, ?_⟩
      simp only [F1, SF0, SP0, seval, -Int.reduceNatCast', fn28_res, fn28_keep, he]
  · have hl' : ((a.length : Int) != (b.length : Int)) = true := by
      simp only [bne_iff_ne, ne_eq]
      omega
    have he : sameT a b = false := by simp [sameT, hl]
    simp only [fn28_body, c28, D0, SP0, seval, -Int.reduceNatCast', hl']
    simp only [F1, SF0, SP0, seval, -Int.reduceNatCast', fn28_res, fn28_keep, he]
noncomputable def k28 : Kon (List Nd × List Nd) := ⟨fun x => (∀ n ∈ x.1, n.set.length ≤ 600) ∧ x.1.length ≤ 9223372036854775807, fun x => [(AV.list 5 (List.map eNd x.1)), (AV.list 5 (List.map eNd x.2))], fun x => .bool (sameT x.1 x.2)⟩
theorem e28 (a : List Nd) (b : List Nd) (hd : (∀ n ∈ a, n.set.length ≤ 600) ∧ a.length ≤ 9223372036854775807) (q0 : Id) (H0 : Heap) : k28.ora q0 ([(AV.list 5 (List.map eNd a)), (AV.list 5 (List.map eNd b))]) H0 = some (.bool (sameT a b), H0) := k28.eq (tree2Inj) (a, b) hd q0 H0
theorem ook28 : OraOK Tryz.prog (51 % 100000) k28.ora := k28.ok orders n6_ok (fun x hd => by simp [k28, PU]) (fun x hd => by simp [k28, PU]) (fun x hd => run28 x.1 x.2 hd.1 hd.2)

theorem run1023 (a b : List Int) (ha : a.length ≤ 9223372036854775807) : cwp n6 18 [] [(AV.list 1 (List.map (fun x => [AV.int .i64 x]) (a))), (AV.list 1 (List.map (fun x => [AV.int .i64 x]) (b)))] [] (fun r H => r = .bool (decide (a = b)) ∧ H = []) := by
  refine run_fn (fn := fn1023) rfl rfl ?_
  by_cases hl : a.length = b.length
  · have hl' : ((a.length : Int) != (b.length : Int)) = false := by simp [hl]
    simp only [fn1023_body, c1023, D0, SP0, seval, -Int.reduceNatCast', hl']
    refine lg_rule (fun j e H => e = [(0, (AV.list 1 (List.map (fun x => [AV.int .i64 x]) (a)))), (1, (AV.list 1 (List.map (fun x => [AV.int .i64 x]) (b)))), (4, .bool false), (5, .int .i64 j)] ∧ H = [[]] ∧ j ≤ a.length ∧ ∀ i, i < j → a.getD i 0 = b.getD i 0) a.length ?_ ?_
    · exact ⟨rfl, rfl, by simp, by simp⟩
    rintro j e H ⟨rfl, rfl, hj, hi⟩
    simp only [D0, SP0, seval, -Int.reduceNatCast']
    by_cases h : j < a.length
    · have h' : (j : Int) < (a.length : Int) := by omega
      have hp := wrapp (j := j) (by omega)
      have hga := map_get (f := fun x : Int => [AV.int .i64 x]) h 0
      have hgb := map_get (f := fun x : Int => [AV.int .i64 x]) (l := b) (j := j) (by omega) 0
      have ne : a.getD j 0 ≠ b.getD j 0 → decide (a = b) = false := fun h1 => by
        rw [decide_eq_false_iff_not]
        intro e
        exact h1 (by rw [e])
      have step : a.getD j 0 = b.getD j 0 → ∀ i, i < j + 1 → a.getD i 0 = b.getD i 0 := fun h1 i h2 => by
        by_cases e : i = j
        · rw [e]; exact h1
        · exact hi i (by omega)
      generalize a.getD j 0 = x at hga ne step
      generalize b.getD j 0 = y at hgb ne step
      by_cases h1 : x = y
      · have st := step h1
        have h1' : (x != y) = false := by simp [h1]
        clear ne step hi
        simp only [D0, SP0, seval, -Int.reduceNatCast', h', hga, hgb, h1', hp, decide_true, Int.natCast_nonneg, Int.toNat_natCast]
        simp only [F1, SF0, SP0, seval, -Int.reduceNatCast']
        exact ⟨h, h, st⟩
      · have ne' := ne h1
        have h1' : (x != y) = true := by simp [h1]
        clear ne step hi
        simp only [D0, SP0, seval, -Int.reduceNatCast', h', hga, hgb, h1', decide_true, Int.natCast_nonneg, Int.toNat_natCast]
        simp only [F1, SF0, SP0, seval, -Int.reduceNatCast', fn1023_res, fn1023_keep, ne']
    · have h' : ¬ (j : Int) < (a.length : Int) := by omega
      have he : decide (a = b) = true := decide_eq_true (ext_getI hl fun i h1 => hi i (by omega))
      simp only [D0, SP0, seval, -Int.reduceNatCast', h', decide_false]
      refine .inr ⟨by simp, ?_⟩
      simp only [F1, SF0, SP0, seval, -Int.reduceNatCast', fn1023_res, fn1023_keep, he]
  · have hl' : ((a.length : Int) != (b.length : Int)) = true := by
      simp only [bne_iff_ne, ne_eq]
      omega
    have he : decide (a = b) = false := by
      rw [decide_eq_false_iff_not]
      intro e
      exact hl (by rw [e])
    simp only [fn1023_body, c1023, D0, SP0, seval, -Int.reduceNatCast', hl']
    simp only [F1, SF0, SP0, seval, -Int.reduceNatCast', fn1023_res, fn1023_keep, he]
theorem row2Inj : ∀ x y : List Int × List Int, [(AV.list 1 (List.map (fun x => [AV.int .i64 x]) (x.1))), (AV.list 1 (List.map (fun x => [AV.int .i64 x]) (x.2)))] = [(AV.list 1 (List.map (fun x => [AV.int .i64 x]) (y.1))), (AV.list 1 (List.map (fun x => [AV.int .i64 x]) (y.2)))] → x = y := by
  rintro ⟨a, m⟩ ⟨b, n⟩ h
  simp only [List.cons.injEq, and_true] at h
  rw [eRow_inj (a := a) (b := b) h.1, eRow_inj (a := m) (b := n) h.2]
noncomputable def k1023 : Kon (List Int × List Int) := ⟨fun x => x.1.length ≤ 9223372036854775807, fun x => [(AV.list 1 (List.map (fun x => [AV.int .i64 x]) (x.1))), (AV.list 1 (List.map (fun x => [AV.int .i64 x]) (x.2)))], fun x => .bool (decide (x.1 = x.2))⟩
theorem e1023 (a : List Int) (b : List Int) (hd : a.length ≤ 9223372036854775807) (q0 : Id) (H0 : Heap) : k1023.ora q0 ([(AV.list 1 (List.map (fun x => [AV.int .i64 x]) (a))), (AV.list 1 (List.map (fun x => [AV.int .i64 x]) (b)))]) H0 = some (.bool (decide (a = b)), H0) := k1023.eq (row2Inj) (a, b) hd q0 H0
theorem ook1023 : OraOK Tryz.prog (18 % 100000) k1023.ora := k1023.ok orders n6_ok (fun x hd => by simp [k1023, PU]) (fun x hd => by simp [k1023, PU]) (fun x hd => run1023 x.1 x.2 hd)

def sameM (x y : Nm) : Bool := decide (x.name = y.name) && decide (x.set = y.set)
def sameMs (a b : List Nm) : Bool := decide (a.length = b.length) && (List.range a.length).all fun i => sameM (a.getD i default) (b.getD i default)
theorem sameMs_refl (a : List Nm) : sameMs a a = true := by simp [sameMs, sameM]
theorem nms2Inj : ∀ x y : List Nm × List Nm, [(AV.list 2 (List.map eNm (x.1))), (AV.list 2 (List.map eNm (x.2)))] = [(AV.list 2 (List.map eNm (y.1))), (AV.list 2 (List.map eNm (y.2)))] → x = y := by
  rintro ⟨a, m⟩ ⟨b, n⟩ h
  simp only [List.cons.injEq, AV.list.injEq, and_true, true_and] at h
  rw [eNms_inj h.1, eNms_inj h.2]
theorem run1255 (a b : List Nm) (hd : NmsD a) : cwp n6 50 [] [(AV.list 2 (List.map eNm (a))), (AV.list 2 (List.map eNm (b)))] [] (fun r H => r = .bool (sameMs a b) ∧ H = []) := by
  refine run_fn (fn := fn1255) rfl rfl ?_
  have ha := hd.all
  have hla := hd.len
  by_cases hl : a.length = b.length
  · have hl' : ((a.length : Int) != (b.length : Int)) = false := by simp [hl]
    simp only [fn1255_body, c1255, D0, SP0, seval, -Int.reduceNatCast', hl']
    refine lg_rule (fun j e H => e = [(0, (AV.list 2 (List.map eNm (a)))), (1, (AV.list 2 (List.map eNm (b)))), (4, .bool false), (5, .int .i64 j)] ∧ H = [[]] ∧ j ≤ a.length ∧ ∀ i, i < j → sameM (a.getD i default) (b.getD i default) = true) a.length ?_ ?_
    · exact ⟨rfl, rfl, by simp, by simp⟩
    rintro j e H ⟨rfl, rfl, hj, hi⟩
    by_cases h : j < a.length
    · have h' : (j : Int) < (a.length : Int) := by omega
      have hp := wrapp (j := j) (by omega)
      have hga := map_get (f := eNm) h default
      have hgb := map_get (f := eNm) (l := b) (j := j) (by omega) default
      have hsm := ha (a.getD j default) (by rw [List.getD_eq_getElem?_getD, List.getElem?_eq_getElem h]; exact List.getElem_mem h)
      have bad : sameM (a.getD j default) (b.getD j default) = false → sameMs a b = false := fun h1 => by
        unfold sameMs
        rw [all_false h h1, Bool.and_false]
      have step : sameM (a.getD j default) (b.getD j default) = true → ∀ i, i < j + 1 → sameM (a.getD i default) (b.getD i default) = true := fun h1 i h2 => by
        by_cases e : i = j
        · rw [e]; exact h1
        · exact hi i (by omega)
      generalize a.getD j default = x at hga bad step hsm
      generalize b.getD j default = y at hgb bad step
      obtain ⟨z, c⟩ := x
      obtain ⟨z', c'⟩ := y
      simp only at hsm
      have hd : c.length ≤ 9223372036854775807 := by omega
      clear hi
      cases e1 : decide (z = z') with
      | false =>
        have bad := bad (by simp [sameM, e1])
        simp only [D0, SP0, seval, -Int.reduceNatCast', h', hga, hgb, eNm, astr_neq, e1, lrc_y, lrc_n, apx, apart, apart1, needs, decide_true, Int.natCast_nonneg, Int.toNat_natCast]
        refine .inr ⟨by simp, ?_⟩
        simp only [F1, SF0, SP0, seval, -Int.reduceNatCast', fn1255_res, fn1255_keep, bad]
      | true =>
        cases e2 : decide (c = c') with
        | false =>
          have bad := bad (by simp [sameM, e2])
          simp only [D0, SP0, seval, -Int.reduceNatCast', @use_all n6 70 k63.ora rfl, e63, hd, h', hga, hgb, eNm, astr_neq, e1, e2, lrc_y, lrc_n, apx, apart, apart1, needs, decide_true, Int.natCast_nonneg, Int.toNat_natCast]
          refine .inr ⟨by simp, ?_⟩
          simp only [F1, SF0, SP0, seval, -Int.reduceNatCast', fn1255_res, fn1255_keep, bad]
        | true =>
          have step := step (by simp only [sameM, e1, e2, Bool.and_self])
          simp only [D0, SP0, seval, -Int.reduceNatCast', @use_all n6 70 k63.ora rfl, e63, hd, h', hga, hgb, hp, eNm, astr_neq, e1, e2, lrc_y, lrc_n, apx, apart, apart1, needs, decide_true, Int.natCast_nonneg, Int.toNat_natCast]
          simp only [F1, SF0, SP0, seval, -Int.reduceNatCast']
          exact ⟨h, h, step⟩
    · have h' : ¬ (j : Int) < (a.length : Int) := by omega
      have he : sameMs a b = true := by
        unfold sameMs
        rw [all_true fun i h1 => hi i (by omega)]
        simp [hl]
      simp only [D0, SP0, seval, -Int.reduceNatCast', h', decide_false]
      refine .inr ⟨by simp, ?_⟩
      simp only [F1, SF0, SP0, seval, -Int.reduceNatCast', fn1255_res, fn1255_keep, he]
  · have hl' : ((a.length : Int) != (b.length : Int)) = true := by
      simp only [bne_iff_ne, ne_eq]
      omega
    have he : sameMs a b = false := by simp [sameMs, hl]
    simp only [fn1255_body, c1255, D0, SP0, seval, -Int.reduceNatCast', hl']
    simp only [F1, SF0, SP0, seval, -Int.reduceNatCast', fn1255_res, fn1255_keep, he]
noncomputable def k1255 : Kon (List Nm × List Nm) := ⟨fun x => NmsD x.1, fun x => [(AV.list 2 (List.map eNm (x.1))), (AV.list 2 (List.map eNm (x.2)))], fun x => .bool (sameMs x.1 x.2)⟩
theorem e1255 (a : List Nm) (b : List Nm) (hd : NmsD a) (q0 : Id) (H0 : Heap) : k1255.ora q0 ([(AV.list 2 (List.map eNm (a))), (AV.list 2 (List.map eNm (b)))]) H0 = some (.bool (sameMs a b), H0) := k1255.eq (nms2Inj) (a, b) hd q0 H0
theorem ook1255 : OraOK Tryz.prog (50 % 100000) k1255.ora := k1255.ok orders n6_ok (fun x hd => by simp [k1255, PU]) (fun x hd => by simp [k1255, PU]) (fun x hd => run1255 x.1 x.2 hd)

noncomputable def n7 : FT := upd (upd (upd (n6) 51 k28.ora) 18 k1023.ora) 50 k1255.ora
theorem n7_ok : FTOK Tryz.prog n7 := upd_ok2 (f := 50) (upd_ok2 (f := 18) (upd_ok2 (f := 51) (n6_ok) ook28) ook1023) ook1255

def sameL (x y : Rl) : Bool := (x.brk == y.brk) && sameT x.before y.before && sameT x.after y.after
def sameRs (a b : Rs) : Bool := sameMs a.names b.names && (a.els == b.els) && decide (a.list.length = b.list.length) && (List.range a.list.length).all fun i => sameL (a.list.getD i default) (b.list.getD i default)
theorem sameT_refl (t : List Nd) : sameT t t = true := by simp [sameT, sameN]
theorem sameRs_refl (a : Rs) : sameRs a a = true := by simp [sameRs, sameMs_refl, sameL, sameT_refl]
theorem rules2Inj : ∀ x y : Rs × Rs, [(AV.agg [(AV.list 2 (List.map eNm (Rs.names x.1))), (AV.list 3 (List.map eRl (Rs.list x.1))), AV.bool (Rs.els x.1)]), (AV.agg [(AV.list 2 (List.map eNm (Rs.names x.2))), (AV.list 3 (List.map eRl (Rs.list x.2))), AV.bool (Rs.els x.2)])] = [(AV.agg [(AV.list 2 (List.map eNm (Rs.names y.1))), (AV.list 3 (List.map eRl (Rs.list y.1))), AV.bool (Rs.els y.1)]), (AV.agg [(AV.list 2 (List.map eNm (Rs.names y.2))), (AV.list 3 (List.map eRl (Rs.list y.2))), AV.bool (Rs.els y.2)])] → x = y := by
  rintro ⟨a, m⟩ ⟨b, n⟩ h
  simp only [List.cons.injEq, and_true] at h
  rw [rules_inj h.1, rules_inj h.2]
theorem di_storew {ft : FT} {ks : List Kt} {Q : Fin} {s : St} {drop : List Nat} {k : Nat} {r : List AIn} {l : List Rec} {i : AIn} (n : Nat) (x y : AX) : di ft (.storew n x y) i r k l drop ks Q s = ds ft (ains (.storew n x y) s) i r k l drop ks Q s := propext Iff.rfl
theorem run1238 (a b : Rs) (hd : OwnD a) : cwp n7 21 [] [(AV.agg [(AV.list 2 (List.map eNm (Rs.names a))), (AV.list 3 (List.map eRl (Rs.list a))), AV.bool (Rs.els a)]), (AV.agg [(AV.list 2 (List.map eNm (Rs.names b))), (AV.list 3 (List.map eRl (Rs.list b))), AV.bool (Rs.els b)])] [] (fun r H => r = .bool (sameRs a b) ∧ H = []) := by
  refine run_fn (fn := fn1238) rfl rfl ?_
  have hn := hd.names
  have hla := hd.len
  cases e0 : sameMs a.names b.names with
  | false =>
    have he : sameRs a b = false := by simp [sameRs, e0]
    simp only [fn1238_body, c1238, D0, SP0, seval, -Int.reduceNatCast', @use_all n7 50 k1255.ora rfl, e1255, hn, e0]
    simp only [F1, SF0, SP0, seval, -Int.reduceNatCast', fn1238_res, fn1238_keep, he]
  | true =>
  cases e1 : (a.els == b.els) with
  | false =>
    have he : sameRs a b = false := by simp [sameRs, e1]
    simp only [fn1238_body, c1238, D0, SP0, seval, -Int.reduceNatCast', @use_all n7 50 k1255.ora rfl, e1255, hn, e0, e1]
    simp only [F1, SF0, SP0, seval, -Int.reduceNatCast', fn1238_res, fn1238_keep, he]
  | true =>
  by_cases hl : a.list.length = b.list.length
  case neg =>
    have hl' : ((a.list.length : Int) != (b.list.length : Int)) = true := by
      simp only [bne_iff_ne, ne_eq]
      omega
    have he : sameRs a b = false := by simp [sameRs, hl]
    simp only [fn1238_body, c1238, D0, SP0, seval, -Int.reduceNatCast', @use_all n7 50 k1255.ora rfl, e1255, hn, e0, e1, hl']
    simp only [F1, SF0, SP0, seval, -Int.reduceNatCast', fn1238_res, fn1238_keep, he]
  have hl' : ((a.list.length : Int) != (b.list.length : Int)) = false := by simp [hl]
  simp only [fn1238_body, c1238, D0, SP0, seval, -Int.reduceNatCast', @use_all n7 50 k1255.ora rfl, e1255, hn, e0, e1, hl']
  refine lg_rule (fun j e H => e = [(0, (AV.agg [(AV.list 2 (List.map eNm (Rs.names a))), (AV.list 3 (List.map eRl (Rs.list a))), AV.bool (Rs.els a)])), (1, (AV.agg [(AV.list 2 (List.map eNm (Rs.names b))), (AV.list 3 (List.map eRl (Rs.list b))), AV.bool (Rs.els b)])), (2, .ref [0] 1 0 0), (3, .ref [1] 1 0 0), (4, .bool false), (5, .int .i64 j)] ∧ H = [[([1], .box [(AV.list 2 (List.map eNm (b.names))), (AV.list 3 (List.map eRl (b.list))), .bool b.els]), ([0], .box [(AV.list 2 (List.map eNm (a.names))), (AV.list 3 (List.map eRl (a.list))), .bool a.els])]] ∧ j ≤ a.list.length ∧ ∀ i, i < j → sameL (a.list.getD i default) (b.list.getD i default) = true) a.list.length ?_ ?_
  · exact ⟨rfl, rfl, by simp, by simp⟩
  rintro j e H ⟨rfl, rfl, hj, hi⟩
  by_cases h : j < a.list.length
  · have h' : (j : Int) < (a.list.length : Int) := by omega
    have hp := wrapp (j := j) (by omega)
    have hga := map_get (f := eRl) h default
    have hgb := map_get (f := eRl) (l := b.list) (j := j) (by omega) default
    obtain ⟨hb, ha⟩ := hd.all (a.list.getD j default) (by rw [List.getD_eq_getElem?_getD, List.getElem?_eq_getElem h]; exact List.getElem_mem h)
    have bad : sameL (a.list.getD j default) (b.list.getD j default) = false → sameRs a b = false := fun h1 => by
      unfold sameRs
      rw [all_false h h1, Bool.and_false]
    have step : sameL (a.list.getD j default) (b.list.getD j default) = true → ∀ i, i < j + 1 → sameL (a.list.getD i default) (b.list.getD i default) = true := fun h1 i h2 => by
      by_cases e : i = j
      · rw [e]; exact h1
      · exact hi i (by omega)
    generalize a.list.getD j default = x at hga bad step hb ha
    generalize b.list.getD j default = y at hgb bad step
    obtain ⟨p, q, c⟩ := x
    obtain ⟨p', q', c'⟩ := y
    simp only at hb ha
    have tb : (∀ n ∈ p, n.set.length ≤ 600) ∧ p.length ≤ 9223372036854775807 := ⟨hb.all, by have := hb.len; omega⟩
    have ta : (∀ n ∈ q, n.set.length ≤ 600) ∧ q.length ≤ 9223372036854775807 := ⟨ha.all, by have := ha.len; omega⟩
    have eb := fun r q H => e28 p r tb q H
    have ea := fun r r' H => e28 q r ta r' H
    clear hi
    have i1 : (([26, j, 15] : Id) == [0]) = false := rfl
    have i2 : (([26, j, 16] : Id) == [0]) = false := rfl
    have i3 : (([26, j, 15] : Id) == [1]) = false := rfl
    have i4 : (([26, j, 16] : Id) == [1]) = false := rfl
    have i5 : (([1] : Id) == [26, j, 15]) = false := rfl
    cases e2 : (c == c') with
    | false =>
      have bad := bad (by simp [sameL, e2])
      simp only [D0, SP0, seval, -Int.reduceNatCast', h', hga, hgb, eRl, e2, hins, fins, idk, List.getLast?_cons_cons, List.getLast?_singleton, Option.getD_some, Option.isNone_none, Nat.reduceLT, di_storew, ains, clsOf, i1, i2, i3, i4, i5, lrc_y, lrc_n, apx, apart, apart1, needs, decide_true, Int.natCast_nonneg, Int.toNat_natCast]
      refine .inr ⟨by simp, ?_⟩
      simp only [F1, SF0, SP0, seval, -Int.reduceNatCast', fn1238_res, fn1238_keep, bad]
    | true =>
      cases e3 : sameT p p' with
      | false =>
        have bad := bad (by simp [sameL, e3])
        simp only [D0, SP0, seval, -Int.reduceNatCast', h', hga, hgb, eRl, e2, @use_all n7 51 k28.ora rfl, eb, e3, hins, fins, idk, List.getLast?_cons_cons, List.getLast?_singleton, Option.getD_some, Option.isNone_none, Nat.reduceLT, di_storew, ains, clsOf, i1, i2, i3, i4, i5, lrc_y, lrc_n, apx, apart, apart1, needs, decide_true, Int.natCast_nonneg, Int.toNat_natCast]
        refine .inr ⟨by simp, ?_⟩
        simp only [F1, SF0, SP0, seval, -Int.reduceNatCast', fn1238_res, fn1238_keep, bad]
      | true =>
        cases e4 : sameT q q' with
        | false =>
          have bad := bad (by simp [sameL, e4])
          simp only [D0, SP0, seval, -Int.reduceNatCast', h', hga, hgb, eRl, e2, @use_all n7 51 k28.ora rfl, eb, ea, e3, e4, hins, fins, idk, List.getLast?_cons_cons, List.getLast?_singleton, Option.getD_some, Option.isNone_none, Nat.reduceLT, di_storew, ains, clsOf, i1, i2, i3, i4, i5, lrc_y, lrc_n, apx, apart, apart1, needs, decide_true, Int.natCast_nonneg, Int.toNat_natCast]
          refine .inr ⟨by simp, ?_⟩
          simp only [F1, SF0, SP0, seval, -Int.reduceNatCast', fn1238_res, fn1238_keep, bad]
        | true =>
          have step := step (by simp only [sameL, e2, e3, e4, Bool.and_self])
          simp only [D0, SP0, seval, -Int.reduceNatCast', h', hga, hgb, hp, eRl, e2, @use_all n7 51 k28.ora rfl, eb, ea, e3, e4, hins, fins, idk, List.getLast?_cons_cons, List.getLast?_singleton, Option.getD_some, Option.isNone_none, Nat.reduceLT, di_storew, ains, clsOf, i1, i2, i3, i4, i5, lrc_y, lrc_n, apx, apart, apart1, needs, decide_true, Int.natCast_nonneg, Int.toNat_natCast]
          simp only [F1, SF0, SP0, seval, -Int.reduceNatCast']
          exact ⟨h, h, step⟩
  · have h' : ¬ (j : Int) < (a.list.length : Int) := by omega
    have he : sameRs a b = true := by
      unfold sameRs
      rw [all_true fun i h1 => hi i (by omega)]
      simp [hl, e0, e1]
    simp only [D0, SP0, seval, -Int.reduceNatCast', h', decide_false]
    refine .inr ⟨by simp, ?_⟩
    simp only [F1, SF0, SP0, seval, -Int.reduceNatCast', fn1238_res, fn1238_keep, he]
noncomputable def k1238 : Kon (Rs × Rs) := ⟨fun x => OwnD x.1, fun x => [(AV.agg [(AV.list 2 (List.map eNm (Rs.names x.1))), (AV.list 3 (List.map eRl (Rs.list x.1))), AV.bool (Rs.els x.1)]), (AV.agg [(AV.list 2 (List.map eNm (Rs.names x.2))), (AV.list 3 (List.map eRl (Rs.list x.2))), AV.bool (Rs.els x.2)])], fun x => .bool (sameRs x.1 x.2)⟩
theorem e1238 (a : Rs) (b : Rs) (hd : OwnD a) (q0 : Id) (H0 : Heap) : k1238.ora q0 ([(AV.agg [(AV.list 2 (List.map eNm (Rs.names a))), (AV.list 3 (List.map eRl (Rs.list a))), AV.bool (Rs.els a)]), (AV.agg [(AV.list 2 (List.map eNm (Rs.names b))), (AV.list 3 (List.map eRl (Rs.list b))), AV.bool (Rs.els b)])]) H0 = some (.bool (sameRs a b), H0) := k1238.eq (rules2Inj) (a, b) hd q0 H0
theorem ook1238 : OraOK Tryz.prog (21 % 100000) k1238.ora := k1238.ok orders n7_ok (fun x hd => by simp [k1238, PU]) (fun x hd => by simp [k1238, PU]) (fun x hd => run1238 x.1 x.2 hd)

noncomputable def n8 : FT := upd (n7) 21 k1238.ora
theorem n8_ok : FTOK Tryz.prog n8 := upd_ok2 (f := 21) (n7_ok) ook1238

end Go.Proofs.Abs
