/- A part of a proof: the text that states the row tells what is proved. No condition is laid on anything. -/
import Derived.Test.YtgcncpedpjjjeaaAbsM0
import Derived.Test.YtgcncpedpjjjeaaAbsF9
set_option linter.all false
set_option linter.constructorNameAsVariable false
set_option linter.defProp false
set_option linter.unusedVariables false
set_option linter.unusedSimpArgs false
set_option maxRecDepth 100000
set_option maxHeartbeats 4000000
namespace Go.Proofs.Abs
open Go
theorem hset_self {H : Heap} {id : Id} {o : AObj} (h : hget H id = some o) : hset H id o = H := by
  have fs : ∀ (f : Fr), fget f id = some o → fset f id o = f := by
    intro f
    induction f with
    | nil => intro _; rfl
    | cons p f ih =>
      obtain ⟨i, o'⟩ := p
      intro h
      by_cases hi : i = id
      · simp only [fget, hi, if_true, Option.some.injEq] at h
        simp [fset, hi, h]
      · simp only [fget, hi, if_false] at h
        simp [fset, hi, ih h]
  induction H with
  | nil => rfl
  | cons f r ih =>
    cases e : fget f id with
    | none =>
      simp only [hget, e] at h
      simp [hset, e, ih h]
    | some o' =>
      simp only [hget, e, Option.some.injEq] at h
      subst h
      simp [hset, e, fs f e]
theorem hget_set {H : Heap} {id : Id} {o : AObj} (h : hget H id = some o) (x : AObj) : hget (hset H id x) id = some x := by
  rw [hset_some (C := ⟨H, fun _ => .nilFunc, default, fun _ => True, fun _ _ => False⟩) h id]; simp
/-! ### Trees by their terms -/
def eTr1 (x : Tr) : List AV := [AV.list 5 (List.map eNd (enc x))]
theorem pure_eTr1 (l : List Tr) : Pure (.list 1 (List.map eTr1 l)) = True := by
  rw [pure_list]
  refine eq_true fun r hr a ha => ?_
  obtain ⟨x, _, rfl⟩ := List.mem_map.1 hr
  simp only [eTr1, List.mem_singleton] at ha
  subst ha
  exact pure_eTree _
def OkS (x : Tr) : Prop := Ok x ∧ sz x ≤ 40000
theorem OkS.good {x : Tr} (h : OkS x) : goodT (enc x) = true := ok_good x h.1 h.2
theorem OkS.sm {x : Tr} (h : OkS x) : SmS (enc x) := ok_sm x h.1 h.2
theorem OkS.ne {x : Tr} (h : OkS x) : 1 ≤ (enc x).length ∧ (enc x).length ≤ 9223372036854775807 := by
  rw [enc_len]; have := sz_pos x; have := h.2; omega
theorem enc_injS {x y : Tr} (hx : OkS x) (hy : OkS y) (h : enc x = enc y) : x = y := enc_inj x y hx.1 hy.1 hx.2 h
theorem sameT_enc {x y : Tr} (hx : OkS x) (hy : OkS y) : sameT (enc x) (enc y) = decide (x = y) := by
  rw [Bool.eq_iff_iff, sameT_iff, decide_eq_true_eq]
  exact ⟨enc_injS hx hy, fun h => by rw [h]⟩
theorem eTr1_inj {l m : List Tr} (hl : ∀ x ∈ l, OkS x) (hm : ∀ x ∈ m, OkS x) (h : List.map eTr1 l = List.map eTr1 m) : l = m := by
  induction l generalizing m with
  | nil => cases m with
    | nil => rfl
    | cons y m => simp at h
  | cons x l ih => cases m with
    | nil => simp at h
    | cons y m =>
      simp only [List.map_cons, List.cons.injEq, eTr1, and_true] at h
      rw [enc_injS (hl x (by simp)) (hm y (by simp)) (eTree_inj (a := enc x) (b := enc y) h.1), ih (fun z hz => hl z (by simp [hz])) (fun z hz => hm z (by simp [hz])) h.2]
/-! 106: smart.faced. -/
theorem run106 (t : List Nd) (h1 : 1 ≤ t.length) (h2 : t.length ≤ 9223372036854775807) : cwp y7 106 [] [(AV.list 5 (List.map eNd t))] [] (fun r H => r = .agg [.int .i64 (lastN t).kind, .int .i64 (lastN t).a, .int .i64 (lastN t).b, .str (lastN t).name] ∧ H = []) := by
  refine run_fn (fn := fn106) rfl rfl ?_
  have w := wrapm (j := t.length) h1 h2
  have hg := map_get (f := eNd) (l := t) (j := t.length - 1) (by omega) default
  unfold lastN
  generalize t.getD (t.length - 1) default = x at hg ⊢
  obtain ⟨k, a, b, c, z⟩ := x
  simp only [fn106_body, c106, D0, ains, clsOf, abin, aint, aun, dnext, rowsOf, loadObj, cellsOf, ofCells, bnd, hmerge, Nat.reduceBEq, Nat.reduceAdd, reduceIte, Nat.reduceEqDiff, Nat.reduceLeDiff, Int.reduceEq, reduceCtorEq, Int.reduceBEq, Int.reduceBNe, Int.reduceLT, Int.reduceNeg, w, hg, eNd, eSet, Int.natCast_nonneg, Int.toNat_natCast]
  simp only [F1, bodyRes, one, ains, clsOf, abin, aint, aun, dnext, rowsOf, loadObj, cellsOf, ofCells, bnd, hmerge, Nat.reduceBEq, Nat.reduceAdd, reduceIte, Nat.reduceEqDiff, Nat.reduceLeDiff, Int.reduceEq, reduceCtorEq, Int.reduceBEq, Int.reduceBNe, Int.reduceLT, Int.reduceNeg, fn106_res, fn106_keep, fz, fzd, fzd.fzcells]
def k106 : Kon (List Nd) := ⟨fun x => 1 ≤ x.length ∧ x.length ≤ 9223372036854775807, fun x => [(AV.list 5 (List.map eNd x))], fun x => .agg [.int .i64 (lastN x).kind, .int .i64 (lastN x).a, .int .i64 (lastN x).b, .str (lastN x).name]⟩
theorem e106 (t : List Nd) (hd : 1 ≤ t.length ∧ t.length ≤ 9223372036854775807) (q0 : Id) (H0 : Heap) : k106.ora q0 ([(AV.list 5 (List.map eNd t))]) H0 = some (.agg [.int .i64 (lastN t).kind, .int .i64 (lastN t).a, .int .i64 (lastN t).b, .str (lastN t).name], H0) := k106.eq (treeInj) (t) hd q0 H0
theorem ook106 : OraOK Try.prog (106 % 100000) k106.ora := k106.ok orders y7_ok (fun x hd => by simp [k106, PU]) (fun x hd => by simp [k106, PU]) (fun x hd => run106 x hd.1 hd.2)

noncomputable def s1 : FT := upd (y7) 106 k106.ora
theorem s1_ok : FTOK Try.prog s1 := upd_ok2 (f := 106) (y7_ok) ook106

/-! 76: smart.is. -/
theorem run76 (t : List Nd) (k : Int) (hd : 1 ≤ t.length ∧ t.length ≤ 9223372036854775807) : cwp s1 76 [] [(AV.list 5 (List.map eNd t)), .int .i64 k] [] (fun r H => r = .bool (decide ((lastN t).kind = k)) ∧ H = []) := by
  refine run_fn (fn := fn76) rfl rfl ?_
  have he : ((lastN t).kind == k) = decide ((lastN t).kind = k) := by rw [Bool.eq_iff_iff]; simp
  simp only [fn76_body, c76, D0, ains, clsOf, abin, aint, aun, dnext, rowsOf, loadObj, cellsOf, ofCells, bnd, hmerge, Nat.reduceBEq, Nat.reduceAdd, reduceIte, Nat.reduceEqDiff, Nat.reduceLeDiff, Int.reduceEq, reduceCtorEq, Int.reduceBEq, Int.reduceBNe, Int.reduceLT, Int.reduceNeg, @use_all s1 106 k106.ora rfl, e106, hd, he]
  simp only [F1, bodyRes, one, ains, clsOf, abin, aint, aun, dnext, rowsOf, loadObj, cellsOf, ofCells, bnd, hmerge, Nat.reduceBEq, Nat.reduceAdd, reduceIte, Nat.reduceEqDiff, Nat.reduceLeDiff, Int.reduceEq, reduceCtorEq, Int.reduceBEq, Int.reduceBNe, Int.reduceLT, Int.reduceNeg, fn76_res, fn76_keep]
def k76 : Kon (List Nd × Int) := ⟨fun x => 1 ≤ x.1.length ∧ x.1.length ≤ 9223372036854775807, fun x => [(AV.list 5 (List.map eNd x.1)), .int .i64 x.2], fun x => .bool (decide ((lastN x.1).kind = x.2))⟩
theorem e76 (t : List Nd) (k : Int) (hd : 1 ≤ t.length ∧ t.length ≤ 9223372036854775807) (q0 : Id) (H0 : Heap) : k76.ora q0 ([(AV.list 5 (List.map eNd t)), .int .i64 k]) H0 = some (.bool (decide ((lastN t).kind = k)), H0) := k76.eq (by dsimp only [k76]; rintro ⟨a, m⟩ ⟨b, n⟩ h; simp only [List.cons.injEq, AV.int.injEq, and_true, true_and] at h; rw [eTree_inj (a := a) (b := b) h.1, h.2]) (t, k) hd q0 H0
theorem ook76 : OraOK Try.prog (76 % 100000) k76.ora := k76.ok orders s1_ok (fun x hd => by simp [k76, PU]) (fun x hd => by simp [k76, PU]) (fun x hd => run76 x.1 x.2 hd)

/-! 109: smart.alike. -/
theorem bytes_beq2 (z z' : ByteArray) : (z == z') = decide (z = z') := by
  cases z with
  | mk d =>
    cases z' with
    | mk d' =>
      have : ((⟨d⟩ : ByteArray) == ⟨d'⟩) = (d == d') := rfl
      rw [this, Bool.eq_iff_iff]
      simp
theorem face_eq (a b c a' b' c' : Int) (z z' : ByteArray) : acells [0, 0, 0, 2] [.int .i64 a, .int .i64 b, .int .i64 c, .str z] [.int .i64 a', .int .i64 b', .int .i64 c', .str z'] = some (decide (a = a' ∧ b = b' ∧ c = c' ∧ z = z')) := by
  simp only [acells, if_true, bytes_beq2]
  by_cases h1 : a = a' <;> by_cases h2 : b = b' <;> by_cases h3 : c = c' <;> by_cases h4 : z = z' <;> simp [h1, h2, h3, h4]
theorem run109 (a b : List Nd) (ha : SmS a) (h1 : 1 ≤ a.length) (h2 : 1 ≤ b.length ∧ b.length ≤ 9223372036854775807) : cwp s1 109 [] [(AV.list 5 (List.map eNd a)), (AV.list 5 (List.map eNd b))] [] (fun r H => r = .bool (sameT a b) ∧ H = []) := by
  refine run_fn (fn := fn109) rfl rfl ?_
  have hd : 1 ≤ a.length ∧ a.length ≤ 9223372036854775807 := ⟨h1, ha.wf.len⟩
  by_cases he : ((lastN a).kind = (lastN b).kind ∧ (lastN a).a = (lastN b).a ∧ (lastN a).b = (lastN b).b ∧ (lastN a).name = (lastN b).name)
  · have he' := decide_eq_true he
    simp only [fn109_body, c109, D0, ains, clsOf, abin, aint, aun, dnext, rowsOf, loadObj, cellsOf, ofCells, bnd, hmerge, Nat.reduceBEq, Nat.reduceAdd, reduceIte, Nat.reduceEqDiff, Nat.reduceLeDiff, Int.reduceEq, reduceCtorEq, Int.reduceBEq, Int.reduceBNe, Int.reduceLT, Int.reduceNeg, @use_all s1 106 k106.ora rfl, e106, @use_all s1 33 k33.ora rfl, e33, ha, hd, h2, abins, face_eq, he']
    simp only [F1, bodyRes, one, ains, clsOf, abin, aint, aun, dnext, rowsOf, loadObj, cellsOf, ofCells, bnd, hmerge, Nat.reduceBEq, Nat.reduceAdd, reduceIte, Nat.reduceEqDiff, Nat.reduceLeDiff, Int.reduceEq, reduceCtorEq, Int.reduceBEq, Int.reduceBNe, Int.reduceLT, Int.reduceNeg, fn109_res, fn109_keep]
  · have he' := decide_eq_false he
    have hs : sameT a b = false := by
      cases e : sameT a b with
      | false => rfl
      | true => rw [sameT_iff] at e; subst e; exact absurd ⟨rfl, rfl, rfl, rfl⟩ he
    simp only [fn109_body, c109, D0, ains, clsOf, abin, aint, aun, dnext, rowsOf, loadObj, cellsOf, ofCells, bnd, hmerge, Nat.reduceBEq, Nat.reduceAdd, reduceIte, Nat.reduceEqDiff, Nat.reduceLeDiff, Int.reduceEq, reduceCtorEq, Int.reduceBEq, Int.reduceBNe, Int.reduceLT, Int.reduceNeg, @use_all s1 106 k106.ora rfl, e106, @use_all s1 33 k33.ora rfl, e33, ha, hd, h2, abins, face_eq, he']
    simp only [F1, bodyRes, one, ains, clsOf, abin, aint, aun, dnext, rowsOf, loadObj, cellsOf, ofCells, bnd, hmerge, Nat.reduceBEq, Nat.reduceAdd, reduceIte, Nat.reduceEqDiff, Nat.reduceLeDiff, Int.reduceEq, reduceCtorEq, Int.reduceBEq, Int.reduceBNe, Int.reduceLT, Int.reduceNeg, fn109_res, fn109_keep, hs]
def k109 : Kon (List Nd × List Nd) := ⟨fun x => (SmS x.1 ∧ 1 ≤ x.1.length) ∧ 1 ≤ x.2.length ∧ x.2.length ≤ 9223372036854775807, fun x => [(AV.list 5 (List.map eNd x.1)), (AV.list 5 (List.map eNd x.2))], fun x => .bool (sameT x.1 x.2)⟩
theorem e109 (a : List Nd) (b : List Nd) (hd : (SmS a ∧ 1 ≤ a.length) ∧ 1 ≤ b.length ∧ b.length ≤ 9223372036854775807) (q0 : Id) (H0 : Heap) : k109.ora q0 ([(AV.list 5 (List.map eNd a)), (AV.list 5 (List.map eNd b))]) H0 = some (.bool (sameT a b), H0) := k109.eq (tree2Inj) (a, b) hd q0 H0
theorem ook109 : OraOK Try.prog (109 % 100000) k109.ora := k109.ok orders s1_ok (fun x hd => by simp [k109, PU]) (fun x hd => by simp [k109, PU]) (fun x hd => run109 x.1 x.2 hd.1.1 hd.1.2 hd.2)

noncomputable def s2 : FT := upd (upd (s1) 76 k76.ora) 109 k109.ora
theorem s2_ok : FTOK Try.prog s2 := upd_ok2 (f := 109) (upd_ok2 (f := 76) (s1_ok) ook76) ook109

end Go.Proofs.Abs
