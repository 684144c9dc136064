/- What the rows' condition on the listed package-level variables gives: lex.signs holds the signs. -/
import Derived.Test.YthknebhggdhhfaaGreatDoorAbsGd
import Derived.Test.YthknebhggdhhfaaGreatDoorRows
import Derived.Test.YthknebhggdhhfaaGreatDoorCards
import Derived.Test.YthknebhggdhhfaaGreatDoorTie
import Derived.ProofKit
import Derived.LaidMore
import Derived.OpenShut
import Derived.ChangeArms
import Derived.Stop.Joined
import Derived.SevenTiedAt
set_option maxRecDepth 100000
namespace Go.Proofs.YthknebhggdhhfaaGreatDoor
open Go Go.RowKit Go.ChangeShapes Go.Proofs.Abs
theorem own : ownKnob Tryz.prog.godebug = none := by kernel_rfl
theorem laidOut : laidOutB Tryz.prog = true := by kernel_rfl
abbrev laids : List (String × DataW Unit) := [("math/bits.deBruijn32tab", Rows.laid_math_bits_deBruijn32tab), ("math/bits.deBruijn64tab", Rows.laid_math_bits_deBruijn64tab), ("internal/strconv.uint64pow10", Rows.laid_internal_strconv_uint64pow10), ("strconv.ErrRange", Rows.laid_strconv_ErrRange), ("strconv.ErrSyntax", Rows.laid_strconv_ErrSyntax), ("caesura/lex.signs", Rows.laid_caesura_lex_signs), ("caesura/lex.words", Rows.laid_caesura_lex_words)]
theorem door_met (os : Os) (args : Array Value) : laidMetH Tryz.prog laids ((World.doorLaid Tryz.prog 400 os).forCall (fun _ _ => 0) ⟨#[], args, []⟩).memory :=
  laidMetH_of_parts3 (fuel := 8) (laidMet_of_run' 8 (by kernel_rfl) (by kernel_rfl)) (by kernel_rfl) (by kernel_rfl)
theorem laid_mem {P : Program} {w : World} {n : String} {d : DataW Unit} : ∀ {l : List (String × DataW Unit)} {ps : List MemPlace}, DataW.LaidVars P w l ps → (n, d) ∈ l →
    ∃ g t cs fuel p, P.globalNamed n = some g ∧ (P.globals[g]?).map (·.type) = some t ∧ w.var? P n = some cs ∧ DataW.trod (fun _ => ()) P w 0 (fun _ => true) false fuel t cs.toList = some (d, p)
  | [], _, _, hm => by cases hm
  | (n', d') :: r, ps, h, hm => by
    obtain ⟨g, t, cs, fuel, p, q, h1, h2, h3, h4, h5, _⟩ := h
    rcases List.mem_cons.1 hm with e | e
    · injection e with e1 e2
      subst e1; subst e2
      exact ⟨g, t, cs, fuel, p, h1, h2, h3, h4⟩
    · exact laid_mem h5 e
theorem chunk_at {cs : List Value} {a k : Nat} {v : Value} (h : ((((cs.drop a).take 2).drop k).take 1) = [v]) : cs[a + k]? = some v := by
  have := congrArg (fun l : List Value => l[0]?) h
  simp only [List.getElem?_take, List.getElem?_drop, List.getElem?_cons_zero] at this
  split at this
  · split at this
    · simpa [Nat.add_assoc] using this
    · simp at this
  · simp at this
theorem pairs_cells {P : Program} {w : World} {t e : TypeId} {f0 f1 : Field} {fuel : Nat} {cs : List Value} {L : List (List UInt8 × Int)} {p : List MemPlace} {held : Bool}
    (ht : P.underlying t = some (.array L.length e)) (he : P.underlying e = some (.struct #[f0, f1])) (h0 : P.underlying f0.type = some .string) (h1 : P.underlying f1.type = some (.int .i64)) (o0 : f0.offset = 0) (o1 : f1.offset = 1) (c0 : P.cellsOf f0.type = 1) (c1 : P.cellsOf f1.type = 1) (ce : P.cellsOf e = 2)
    (h : DataW.trod (fun _ => ()) P w 0 (fun _ => true) held fuel t cs = some (.agg (L.map fun x => .agg [.lit (.string x.1), .lit (.int .i64 x.2)]), p)) (i : Nat) (x : List UInt8 × Int) (hx : L[i]? = some x) :
    cs[i * 2]? = some (.string ⟨x.1.toArray⟩) ∧ cs[i * 2 + 1]? = some (.int .i64 x.2) := by
  obtain ⟨xs, m, _, hxs, _, hl, hel⟩ := DataW.trod_array ht h
  simp only [Prod.mk.injEq, DataW.agg.injEq] at hxs
  have hi : i < L.length := (List.getElem?_eq_some_iff.1 hx).1
  have hy := hel i hi
  obtain ⟨y, ey⟩ : ∃ y, xs[i]? = some y := ⟨xs[i], List.getElem?_eq_getElem (by omega)⟩
  have e1 : y.1 = .agg [.lit (.string x.1), .lit (.int .i64 x.2)] := by
    have := congrArg (fun l : List (DataW Unit) => l[i]?) hxs.1
    simp only [List.getElem?_map, hx, ey, Option.map_some, Option.some.injEq] at this
    exact this.symm
  rw [ey, ce] at hy
  obtain ⟨y0, y1, k, e2, _, g0, g1⟩ := trod_struct2 he hy
  rw [e2] at e1
  simp only [DataW.agg.injEq, List.cons.injEq, and_true] at e1
  rw [o0, c0] at g0
  rw [o1, c1] at g1
  obtain ⟨s, k0, z0, _⟩ := DataW.trod_string h0 g0
  obtain ⟨n, k1, z1, _⟩ := DataW.trod_int h1 g1
  rw [z0, z1] at e1
  simp only [DataW.lit.injEq, Lit.string.injEq, Lit.int.injEq, true_and] at e1
  have es : s = ⟨x.1.toArray⟩ := by rw [← e1.1]
  rw [es] at k0
  rw [e1.2] at k1
  exact ⟨chunk_at (a := i * 2) (k := 0) k0, chunk_at (a := i * 2) (k := 1) k1⟩
theorem pair_at {α : Type} {f g : α → AV} : ∀ (L : List α) (j : Nat) (av : AV), (L.flatMap fun x => [f x, g x])[j]? = some av → ∃ i x, L[i]? = some x ∧ ((j = i * 2 ∧ av = f x) ∨ (j = i * 2 + 1 ∧ av = g x))
  | [], j, av, h => by simp at h
  | x :: L, 0, av, h => ⟨0, x, rfl, .inl ⟨rfl, by simpa using h.symm⟩⟩
  | x :: L, 1, av, h => ⟨0, x, rfl, .inr ⟨rfl, by simpa using h.symm⟩⟩
  | x :: L, j + 2, av, h => by
    have h' : (L.flatMap fun x => [f x, g x])[j]? = some av := by simpa using h
    obtain ⟨i, y, e, hh⟩ := pair_at L j av h'
    refine ⟨i + 1, y, by simpa using e, ?_⟩
    rcases hh with ⟨e1, e2⟩ | ⟨e1, e2⟩
    · exact .inl ⟨by omega, e2⟩
    · exact .inr ⟨by omega, e2⟩
def signL : List (List UInt8 × Int) := [([61], 3), ([59], 3), ([40], 3), ([41], 3), ([91], 3), ([93], 3), ([124], 3), ([42], 3), ([43], 3), ([63], 3), ([45], 3), ([195, 183], 4), ([195, 151], 5)]
theorem signsA_eq : signsA = signL.flatMap fun x => [AV.str ⟨x.1.toArray⟩, AV.int .i64 x.2] := rfl
def signF (P : Program) (i : Nat) : Field := match P.underlying 222 with
  | some (.struct fs) => (fs[i]?).getD ⟨"", 0, 0, false, "", "", 0⟩
  | _ => ⟨"", 0, 0, false, "", "", 0⟩
theorem gSigns : Tryz.prog.globalNamed "caesura/lex.signs" = some 1 := by kernel_rfl
theorem tSigns : (Tryz.prog.globals[1]?).map (·.type) = some 223 := by kernel_rfl
theorem strs_cells {P : Program} {w : World} {t e : TypeId} {fuel : Nat} {cs : List Value} {L : List (List UInt8)} {p : List MemPlace} {held : Bool}
    (ht : P.underlying t = some (.array L.length e)) (he : P.underlying e = some .string) (ce : P.cellsOf e = 1)
    (h : DataW.trod (fun _ => ()) P w 0 (fun _ => true) held fuel t cs = some (.agg (L.map fun x => .lit (.string x)), p)) (i : Nat) (x : List UInt8) (hx : L[i]? = some x) :
    cs[i]? = some (.string ⟨x.toArray⟩) := by
  obtain ⟨xs, m, _, hxs, _, hl, hel⟩ := DataW.trod_array ht h
  simp only [Prod.mk.injEq, DataW.agg.injEq] at hxs
  have hi : i < L.length := (List.getElem?_eq_some_iff.1 hx).1
  have hy := hel i hi
  obtain ⟨y, ey⟩ : ∃ y, xs[i]? = some y := ⟨xs[i], List.getElem?_eq_getElem (by omega)⟩
  have e1 : y.1 = .lit (.string x) := by
    have := congrArg (fun l : List (DataW Unit) => l[i]?) hxs.1
    simp only [List.getElem?_map, hx, ey, Option.map_some, Option.some.injEq] at this
    exact this.symm
  rw [ey, ce] at hy
  obtain ⟨s, k0, z0, _⟩ := DataW.trod_string he hy
  rw [z0] at e1
  simp only [DataW.lit.injEq, Lit.string.injEq] at e1
  have es : s = ⟨x.toArray⟩ := by rw [← e1]
  rw [es] at k0
  have := congrArg (fun l : List Value => l[0]?) k0
  simp only [List.getElem?_take, List.getElem?_drop, List.getElem?_cons_zero, Nat.mul_one, Nat.add_zero, Nat.zero_lt_one, if_true] at this
  exact this
theorem rp_of {W : World} {g : Nat} {nm : String} {cs : Array Value} {A : List AV} (hg : Tryz.prog.globalNamed nm = some g) (hv : W.var? Tryz.prog nm = some cs)
    (at' : ∀ (j : Nat) (av : AV), A[j]? = some av → ∃ v, cs[j]? = some v ∧ isCell av = true ∧ Rep (bare W) av v) : Rep (bare W) (.rp A) (.pointer (some ⟨g, 0, none⟩)) := by
  have hcell : ∀ off, W.cell? ⟨g, off, none⟩ = cs[off]? := fun off => World.var?_cell hg hv off
  refine .rp A ⟨g, 0, none⟩ (fun j => (cs[j]?).getD .nilIface) rfl (fun j av ej => ?_) (fun j av ej => ?_)
  · obtain ⟨v, e1, e2, e3⟩ := at' j av ej
    refine ⟨e2, ?_, fun hm => ?_⟩
    · show W.cell? ⟨g, 0 + j, none⟩ = _
      rw [Nat.zero_add, hcell, e1]; rfl
    · rcases hm with hm | ⟨id, o, e, _⟩
      · exact hm
      · cases e
  · obtain ⟨v, e1, e2, e3⟩ := at' j av ej
    simp only [e1, Option.getD_some]
    exact e3
def wordL : List (List UInt8) := [[99, 108, 97, 115, 115], [101, 108, 115, 101], [97, 110, 121], [101, 109, 112, 116, 121], [110, 101, 118, 101, 114]]
theorem wordsA_eq : wordsA = wordL.map fun x => AV.str ⟨x.toArray⟩ := rfl
theorem gWords : Tryz.prog.globalNamed "caesura/lex.words" = some 0 := by kernel_rfl
theorem tWords : (Tryz.prog.globals[0]?).map (·.type) = some 186 := by kernel_rfl
theorem signs_of {W : World} (h : laidMetH Tryz.prog laids W) : Rep (bare W) (.rp signsA) (.pointer (some ⟨1, 0, none⟩)) := by
  rw [MakeChecks.laidMetH_plain _ _ _ (by kernel_rfl)] at h
  obtain ⟨ps, hv, _⟩ := h
  obtain ⟨g, t, cs, fuel, p, h1, h2, h3, h4⟩ := laid_mem hv (n := "caesura/lex.signs") (d := Rows.laid_caesura_lex_signs) (by simp)
  obtain rfl := Option.some.inj (gSigns.symm.trans h1)
  obtain rfl := Option.some.inj (tSigns.symm.trans h2)
  have hf : ∃ f0 f1, Tryz.prog.underlying 222 = some (.struct #[f0, f1]) ∧ Tryz.prog.underlying f0.type = some .string ∧ Tryz.prog.underlying f1.type = some (.int .i64) ∧ f0.offset = 0 ∧ f1.offset = 1 ∧ Tryz.prog.cellsOf f0.type = 1 ∧ Tryz.prog.cellsOf f1.type = 1 :=
    ⟨signF Tryz.prog 0, signF Tryz.prog 1, by kernel_rfl, by kernel_rfl, by kernel_rfl, by kernel_rfl, by kernel_rfl, by kernel_rfl, by kernel_rfl⟩
  obtain ⟨f0, f1, he, k0, k1, o0, o1, c0, c1⟩ := hf
  have hc := pairs_cells (L := signL) (show Tryz.prog.underlying 223 = some (.array 13 222) by kernel_rfl) he k0 k1 o0 o1 c0 c1 (by kernel_rfl) h4
  refine rp_of gSigns h3 fun j av ej => ?_
  rw [signsA_eq] at ej
  obtain ⟨i, x, hx, ⟨e1, e2⟩ | ⟨e1, e2⟩⟩ := pair_at _ _ _ ej
  · subst e1; subst e2
    exact ⟨_, by simpa using (hc i x hx).1, rfl, .str _⟩
  · subst e1; subst e2
    exact ⟨_, by simpa using (hc i x hx).2, rfl, .int _ _⟩
theorem words_of {W : World} (h : laidMetH Tryz.prog laids W) : Rep (bare W) (.rp wordsA) (.pointer (some ⟨0, 0, none⟩)) := by
  rw [MakeChecks.laidMetH_plain _ _ _ (by kernel_rfl)] at h
  obtain ⟨ps, hv, _⟩ := h
  obtain ⟨g, t, cs, fuel, p, h1, h2, h3, h4⟩ := laid_mem hv (n := "caesura/lex.words") (d := Rows.laid_caesura_lex_words) (by simp)
  obtain rfl := Option.some.inj (gWords.symm.trans h1)
  obtain rfl := Option.some.inj (tWords.symm.trans h2)
  have hc := strs_cells (L := wordL) (show Tryz.prog.underlying 186 = some (.array 5 9) by kernel_rfl) (by kernel_rfl) (by kernel_rfl) h4
  refine rp_of gWords h3 fun j av ej => ?_
  rw [wordsA_eq, List.getElem?_map, Option.map_eq_some_iff] at ej
  obtain ⟨x, hx, rfl⟩ := ej
  exact ⟨_, by simpa using hc j x hx, rfl, .str _⟩
theorem glob_of_laid {W : World} (h : laidMetH Tryz.prog laids W) : GlobOK (bare W) := by
  intro n cv hn
  have hn' : globTab n = some cv := hn
  unfold globTab at hn'
  split at hn'
  · rename_i e
    injection hn' with e2
    subst e; subst e2
    exact words_of h
  split at hn'
  · rename_i e
    injection hn' with e2
    subst e; subst e2
    exact signs_of h
  cases hn'
end Go.Proofs.YthknebhggdhhfaaGreatDoor
