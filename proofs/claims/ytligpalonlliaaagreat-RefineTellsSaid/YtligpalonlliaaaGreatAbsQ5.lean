/- A part of a proof: the text that states the row tells what is proved. No condition is laid on anything. -/
import Derived.Test.YtligpalonlliaaaGreatAbsP
import Derived.Test.YtligpalonlliaaaGreatAbsQ4
set_option linter.all false
set_option linter.constructorNameAsVariable false
set_option linter.defProp false
set_option linter.unusedVariables false
set_option linter.unusedSimpArgs false
namespace Go.Proofs.Abs
open Go Go.Proofs
/-! slices.SortedFunc(slices.Values(l), sets.order) as an oracle that can be reckoned. -/
def rgOf : List (List AV) → Option (List (Int × Int))
  | [] => some []
  | [.int .i64 a, .int .i64 b] :: r => match rgOf r with
    | some l => some ((a, b) :: l)
    | none => none
  | _ => none
def rgRows (l : List (Int × Int)) : List (List AV) := l.map fun x => [.int .i64 x.1, .int .i64 x.2]
theorem rgOf_rows : ∀ l, rgOf (rgRows l) = some l
  | [] => rfl
  | x :: r => by
    have := rgOf_rows r
    unfold rgRows at this ⊢
    simp [rgOf, this]
theorem rgOf_some : ∀ {rows : List (List AV)} {l : List (Int × Int)}, rgOf rows = some l → rows = rgRows l
  | [], l, h => by simp [rgOf] at h; subst h; rfl
  | r :: rs, l, h => by
    unfold rgOf at h
    split at h
    · rename_i heq; cases heq
    · rename_i a b r' heq
      injection heq with e1 e2
      subst e1 e2
      split at h
      · rename_i l' hl'
        injection h with h
        subst h
        rw [rgOf_some hl']; rfl
      · cases h
    · cases h
theorem rgRows_length (l : List (Int × Int)) : (rgRows l).length = l.length := by simp [rgRows]
/-- What lies in the box that slices.Values makes. -/
def boxRg : AV → Option (List (Int × Int))
  | .list 2 rows => rgOf rows
  | .nils => some []
  | .emp => some []
  | _ => none
def sfSpec (q : Id) (args : List AV) (H : Heap) : Option (AV × Heap) :=
  match args with
  | [.func 69 [.ref id 1 _ 0], .func 53 []] => match hget H id with
    | some (.box [c]) => match boxRg c with
      | some zs => if zs.length ≤ 1000000 then some (.own (q ++ [0]) zs.length, hadd H (q ++ [0]) (.row true true 55 2 (rgRows (Rg.sortZ zs)))) else none
      | none => none
    | _ => none
  | _ => none
theorem boxRg_rep {C : Ctx} {c : AV} {v : Value} {zs : List (Int × Int)} (h : boxRg c = some zs) (hr : Rep C c v) : Rg.Rgs C.w.heap.size C.w v zs := by
  unfold boxRg at h
  split at h
  · rename_i rows
    obtain rfl := rgOf_some h
    cases hr with
    | list _ _ base cap vals h0 hc hz hrl hb hf hv =>
      by_cases hn : zs = []
      · subst hn; exact .inl ⟨base, cap, rfl, rfl⟩
      · have hne : rgRows zs ≠ [] := fun e => hn (by simpa [rgRows] using e)
        obtain ⟨ad, rfl, hs⟩ := hb hne
        obtain ⟨blk, off, spot⟩ := ad
        simp only at hs
        subst hs
        have cell : ∀ j x, (rgRows zs).flatten[j]? = some x → ∃ u, C.w.cell? ⟨blk, off + j, none⟩ = some u ∧ Rep C x u := fun j x e => ⟨_, ((hf j x e).2 _ rfl).1, hv j x e⟩
        have fl : ∀ (l : List (Int × Int)) (j : Nat), j < l.length → (rgRows l).flatten[j * 2]? = some (.int .i64 (l[j]?.getD (0, 0)).1) ∧ (rgRows l).flatten[j * 2 + 1]? = some (.int .i64 (l[j]?.getD (0, 0)).2) := by
          intro l
          induction l with
          | nil => intro j hj; simp at hj
          | cons x r ih =>
            intro j hj
            match j with
            | 0 => simp [rgRows]
            | j + 1 =>
              have := ih j (by simpa using hj)
              simp only [rgRows, List.map_cons, List.flatten_cons] at this ⊢
              rw [show (j + 1) * 2 = j * 2 + 2 by omega]
              simpa using this
        have h0' : 0 < zs.length := List.length_pos_iff.2 hn
        refine .inr ⟨blk, off, cap, by rw [rgRows_length], ?_, fun j hj => ?_⟩
        · obtain ⟨u, hu, _⟩ := cell 0 _ (by simpa using (fl zs 0 h0').1)
          exact cell_lt hu
        · obtain ⟨u, hu, ru⟩ := cell _ _ (fl zs j hj).1
          obtain ⟨u2, hu2, ru2⟩ := cell _ _ (fl zs j hj).2
          cases ru; cases ru2
          exact ⟨hu, hu2⟩
  · cases hr; injection h with h; subst h; exact .inl ⟨_, _, rfl, rfl⟩
  · cases hr; injection h with h; subst h; exact .inl ⟨_, _, rfl, rfl⟩
  · cases h
theorem rgRows_cells (l : List (Int × Int)) (C : Ctx) : Cells (rgRows l).flatten ∧ RepL C (rgRows l).flatten (Rg.cellsR l) := by
  induction l with
  | nil => exact ⟨Cells.nil, RepL.nil⟩
  | cons x r ih =>
    simp only [rgRows, List.map_cons, List.flatten_cons, Rg.cellsR, List.flatMap_cons] at ih ⊢
    exact ⟨(Cells.cons rfl (Cells.cons rfl Cells.nil)).app ih.1, (RepL.cons (.int _ _) (RepL.cons (.int _ _) RepL.nil)).app ih.2⟩
theorem sf_ok : OraOK Tryz.prog 51 sfSpec := by
  intro q args H r H' h
  refine ⟨enters_of Tryz.func51 (by kernel_rfl) rfl, ?_⟩
  unfold sfSpec at h
  split at h
  rotate_left
  · cases h
  rename_i id i
  split at h
  rotate_left
  · cases h
  rename_i c hbox
  split at h
  rotate_left
  · cases h
  rename_i zs hzs
  split at h
  rotate_left
  · cases h
  rename_i hlen
  simp only [Option.some.injEq, Prod.mk.injEq] at h
  obtain ⟨rfl, rfl⟩ := h
  intro C vs hH hr hav hl
  obtain ⟨hll, hlv⟩ := hl
  match vs, hll with
  | [v0, v1], _ =>
    have r0 := hlv 0 _ _ rfl rfl
    have r1 := hlv 1 _ _ rfl rfl
    cases r1 with
    | func _ _ us ul uv =>
    cases r0 with
    | func _ _ ws wl wv =>
    match us, ul with
    | [], _ =>
    match ws, wl with
    | [p], _ =>
    have rp := wv 0 _ _ rfl rfl
    have hbox' : hget C.H id = some (.box [c]) := by rw [hH]; exact hbox
    obtain ⟨_, g, cs, e, hφ, hg, hcs⟩ := hr.obj id _ hbox'
    cases rp with
    | ref _ _ _ _ _ ha hs ho =>
    obtain ⟨g', hb, rfl⟩ := (ho _ hbox').2 rfl
    rw [hφ] at hb
    have : g = g' := by simpa [blk] using hb
    subst this
    obtain ⟨hcl, hcv⟩ := hcs
    have hsz1 : cs.size = 1 := by simpa using hcl.symm
    have hc0 : cs[0]? = some cs[0] := by simp
    have hcell : C.w.cell? ⟨g, 0, none⟩ = some cs[0] := by simp [World.cell?, hg]
    have hrep : Rep C c cs[0] := hcv 0 _ _ rfl (by simp)
    have := Rg.sortedFunc g cs[0] zs hlen C.w (cell_lt hcell) hcell (boxRg_rep hzs hrep)
    simp only [cellsz, Nat.mul_zero, Nat.add_zero]
    refine this.mono ?_
    rintro e w' ⟨v, rfl, hrow, hbel⟩
    have hq : C.Av (q ++ [0]) := hav _ (List.prefix_append _ _)
    have hA : ∀ i, less C.Av q i → C.Av i := fun i h => h.1
    have hid : ¬ less C.Av q (q ++ [0]) := fun h => h.2 (List.prefix_append _ _)
    have hblk : ∀ g, blk v = some g → C.w.heap.size ≤ g := fun g hg => by
      rcases hrow.2 with ⟨rfl, _⟩ | ⟨g', cap, cur, rfl, hbg, _⟩
      · cases hg
      · have : g' = g := by simpa [blk] using hg
        omega
    have hsl : ∃ a l c, v = .slice a l c := by
      rcases hrow.2 with ⟨rfl, _⟩ | ⟨g', cap, cur, rfl, _⟩
      · exact ⟨_, _, _, rfl⟩
      · exact ⟨_, _, _, rfl⟩
    have hrow0 : w'.ownsRow 0 55 2 v zs.length (Rg.cellsR (Rg.sortZ zs)) := ⟨hrow.1, hrow.2.imp (fun h => h) fun ⟨g, cap, cur, a, _, b⟩ => ⟨g, cap, cur, a, Nat.zero_le _, b⟩⟩
    have hlz : (rgRows (Rg.sortZ zs)).length = zs.length := by rw [rgRows_length, Rg.sortZ_length]
    have he := Ext.new (o := .row true true 55 2 (rgRows (Rg.sortZ zs))) (v := v) (w := w') hr hq hA hbel.size (fun k hk => hbel.block k hk) hbel.tape hbel.os hbel.output hblk
    refine ⟨v, C.put (hadd C.H (q ++ [0]) (.row true true 55 2 (rgRows (Rg.sortZ zs)))) (q ++ [0]) v w' (less C.Av q), rfl, rfl, by rw [← hH]; rfl, HRep.new hr hq hA hid hbel.size (fun k hk => hbel.block k hk) hbel.tape hbel.os hbel.output hblk (fun _ => ⟨by omega, fun r hr' => ?_, (rgRows_cells _ C).1, _, by rw [put_self, hlz]; exact hrow0, (rgRows_cells _ _).2⟩), ?_, he, fun i h1 h2 => ⟨h1, h2⟩⟩
    · obtain ⟨x, _, rfl⟩ := List.mem_map.1 hr'
      rfl
    · refine .own _ _ _ hid hsl fun o' e => ?_
      have e' : hget (hadd C.H (q ++ [0]) (.row true true 55 2 (rgRows (Rg.sortZ zs)))) (q ++ [0]) = some o' := e
      rw [hget_hadd, if_pos rfl] at e'
      injection e' with e'
      subst e'
      refine ⟨by simp [asize, hlz], fun _ => .inl ?_⟩
      rw [put_self]
end Go.Proofs.Abs
