/- A part of a proof: the text that states the row tells what is proved. No condition is laid on anything. -/
import Derived.Test.YtdmnnbmjhpoipaaGreatDoorAbsGi
import Derived.Test.YtdmnnbmjhpoipaaGreatDoorAbsGh
set_option linter.all false
set_option linter.constructorNameAsVariable false
set_option linter.defProp false
set_option linter.unusedVariables false
set_option linter.unusedSimpArgs false
set_option maxRecDepth 100000
set_option maxHeartbeats 4000000
namespace Go.Proofs.Abs
open Go
theorem run81 (t : List Nd) (h1 : 1 ≤ t.length) (h2 : t.length ≤ 9223372036854775807) : cwp s9 50 [] [(AV.list 5 (List.map eNd t))] [] (fun r H => r = .int .i64 (lastN t).kind ∧ H = []) := by
  refine run_fn (fn := fn81) rfl rfl ?_
  have w := wrapm (j := t.length) h1 h2
  have hg := map_get (f := eNd) (l := t) (j := t.length - 1) (by omega) default
  unfold lastN
  generalize t.getD (t.length - 1) default = x at hg ⊢
  simp only [fn81_body, c81, D0, SP0, seval, -Int.reduceNatCast', w, hg, eNd, eSet, Int.natCast_nonneg, Int.toNat_natCast]
  simp only [F1, SF0, SP0, seval, -Int.reduceNatCast', fn81_res, fn81_keep]
noncomputable def k81 : Kon (List Nd) := ⟨fun x => 1 ≤ x.length ∧ x.length ≤ 9223372036854775807, fun x => [(AV.list 5 (List.map eNd x))], fun x => .int .i64 (lastN x).kind⟩
theorem e81 (t : List Nd) (hd : 1 ≤ t.length ∧ t.length ≤ 9223372036854775807) (q0 : Id) (H0 : Heap) : k81.ora q0 ([(AV.list 5 (List.map eNd t))]) H0 = some (.int .i64 (lastN t).kind, H0) := k81.eq (treeInj) (t) hd q0 H0
theorem ook81 : OraOK Tryz.prog (50 % 100000) k81.ora := k81.ok orders s9_ok (fun x hd => by simp [k81, PU]) (fun x hd => by simp [k81, PU]) (fun x hd => run81 x hd.1 hd.2)

theorem run112 (a b : List Nd) (ha : ∀ n ∈ a, n.set.length ≤ 600) (hla : a.length ≤ 9223372036854775807) : cwp s9 74 [] [(AV.list 5 (List.map eNd a)), (AV.list 5 (List.map eNd b))] [] (fun r H => r = .bool (sameT a b) ∧ H = []) := by
  refine run_fn (fn := fn112) rfl rfl ?_
  by_cases hl : a.length = b.length
  · have hl' : ((a.length : Int) != (b.length : Int)) = false := by simp [hl]
    simp only [fn112_body, c112, D0, SP0, seval, -Int.reduceNatCast', hl']
    refine lg_rule (fun j e H => e = [(0, (AV.list 5 (List.map eNd a))), (1, (AV.list 5 (List.map eNd b))), (4, .bool false), (5, .int .i64 j)] ∧ H = [[]] ∧ j ≤ a.length ∧ ∀ i, i < j → sameN (a.getD i default) (b.getD i default) = true) a.length ?_ ?_
    · exact ⟨rfl, rfl, by simp, by simp⟩
    rintro j e H ⟨rfl, rfl, hj, hi⟩
    simp only [D0, SP0, seval, -Int.reduceNatCast']
    by_cases h : j < a.length
    · have h' : (j : Int) < (a.length : Int) := by omega
      have hp := wrapp (j := j) (by omega)
      have hga := map_get (f := eNd) h default
      have hgb := map_get (f := eNd) (l := b) (j := j) (by omega) default
      have hsm := ha _ (getD_mem h)
      have bad : sameN (a.getD j default) (b.getD j default) = false → sameT a b = false := fun h1 => by
        unfold sameT
        rw [all_false h h1, Bool.and_false]
      have step : sameN (a.getD j default) (b.getD j default) = true → ∀ i, i < j + 1 → sameN (a.getD i default) (b.getD i default) = true := fun h1 i h2 => by
        by_cases e : i = j
        · rw [e]; exact h1
        · exact hi i (by omega)
      generalize a.getD j default = x at hga bad step hsm
      generalize b.getD j default = y at hgb bad step
      obtain ⟨k, p, q, c, z⟩ := x
      obtain ⟨k', p', q', c', z'⟩ := y
      simp only at hsm
      clear hi
      by_cases hd : k = k' ∧ p = p' ∧ q = q' ∧ z = z' ∧ c.length = c'.length
      · obtain ⟨rfl, rfl, rfl, rfl, hcl⟩ := hd
        have hcl' : ((c.length : Int) != (c'.length : Int)) = false := by simp [hcl]
        simp only [D0, SP0, seval, -Int.reduceNatCast', h', hga, hgb, eNd, eSet, hins, fins, idk, List.getLast?_cons_cons, List.getLast?_singleton, Option.getD_some, Option.isNone_none, Nat.reduceLT, lrc_x, apx, apart, apart1, needs, hcl', decide_true, Int.natCast_nonneg, Int.toNat_natCast]
        have hx : ∀ m : Nat, sameN ⟨k, p, q, c, z⟩ ⟨k, p, q, c', z⟩ = decide (c = c') := fun _ => by simp [sameN]
        refine lg_rule (fun m e H => e = [(0, (AV.list 5 (List.map eNd a))), (1, (AV.list 5 (List.map eNd b))), (4, .bool false), (5, .int .i64 j), (6, .ref [7, j, 12] 1 0 0), (7, .ref [7, j, 13] 1 0 0), (8, .int .i64 m)] ∧ H = [[([7, j, 13], .box [.int .i64 k, .int .i64 p, .int .i64 q, (AV.list 2 (List.map (fun x => [AV.int .i64 x.1, AV.int .i64 x.2]) (c'))), .str z]), ([7, j, 12], .box [.int .i64 k, .int .i64 p, .int .i64 q, (AV.list 2 (List.map (fun x => [AV.int .i64 x.1, AV.int .i64 x.2]) (c))), .str z])], []] ∧ m ≤ c.length ∧ ∀ i, i < m → c.getD i (0, 0) = c'.getD i (0, 0)) c.length ?_ ?_
        · exact ⟨rfl, rfl, by simp, by simp⟩
        rintro m e H ⟨rfl, rfl, hm, hmi⟩
        simp only [D0, SP0, seval, -Int.reduceNatCast']
        by_cases h3 : m < c.length
        · have h3' : (m : Int) < (c.length : Int) := by omega
          have hpm := wrapp (j := m) (by omega)
          have gc := map_get (f := fun x : Int × Int => [AV.int .i64 x.1, AV.int .i64 x.2]) h3 (0, 0)
          have gd := map_get (f := fun x : Int × Int => [AV.int .i64 x.1, AV.int .i64 x.2]) (l := c') (j := m) (by omega) (0, 0)
          by_cases he : c.getD m (0, 0) = c'.getD m (0, 0)
          · have st : ∀ i, i < m + 1 → c.getD i (0, 0) = c'.getD i (0, 0) := fun i h2 => by
              by_cases e : i = m
              · rw [e]; exact he
              · exact hmi i (by omega)
            rw [← he] at gd
            generalize c.getD m (0, 0) = u at gc gd
            clear bad step hmi he
            simp only [D0, SP0, seval, -Int.reduceNatCast', h3', gc, gd, abins, acells, hpm, hins, fins, idk, lrc_x, apx, apart, apart1, needs, decide_true, Int.natCast_nonneg, Int.toNat_natCast]
            simp only [F1, SF0, SP0, seval, -Int.reduceNatCast']
            exact ⟨h3, h3, st⟩
          · have hb := bad (by rw [hx 0, decide_eq_false_iff_not]; intro e; exact he (by rw [e]))
            have hne : ¬ ((c.getD m (0, 0)).1 = (c'.getD m (0, 0)).1 ∧ (c.getD m (0, 0)).2 = (c'.getD m (0, 0)).2) := fun e => he (Prod.ext e.1 e.2)
            generalize c.getD m (0, 0) = u at gc hne
            generalize c'.getD m (0, 0) = v at gd hne
            obtain ⟨u1, u2⟩ := u
            obtain ⟨v1, v2⟩ := v
            clear bad step hmi he
            by_cases e1 : u1 = v1
            · have e2 : (u2 == v2) = false := by rw [beq_eq_false_iff_ne]; intro e; exact hne ⟨e1, e⟩
              simp only [D0, SP0, seval, -Int.reduceNatCast', h3', gc, gd, abins, acells, e1, e2, hins, fins, idk, lrc_x, apx, apart, apart1, needs, decide_true, Int.natCast_nonneg, Int.toNat_natCast]
              simp only [F1, SF0, SP0, seval, -Int.reduceNatCast', fn112_res, fn112_keep, hb]
            · have e1' : (u1 == v1) = false := by rw [beq_eq_false_iff_ne]; exact e1
              simp only [D0, SP0, seval, -Int.reduceNatCast', h3', gc, gd, abins, acells, e1', hins, fins, idk, lrc_x, apx, apart, apart1, needs, decide_true, Int.natCast_nonneg, Int.toNat_natCast]
              simp only [F1, SF0, SP0, seval, -Int.reduceNatCast', fn112_res, fn112_keep, hb]
        · have h3' : ¬ (m : Int) < (c.length : Int) := by omega
          have he : c = c' := ext_getD (0, 0) hcl fun i h1 => hmi i (by omega)
          have st := step (by rw [hx 0, he]; simp)
          clear bad step hmi
          simp only [D0, SP0, seval, -Int.reduceNatCast', h3', hp, decide_false]
          refine .inr ⟨by simp, ?_⟩
          simp only [F1, SF0, SP0, seval, -Int.reduceNatCast']
          exact ⟨h, h, st⟩
      · have hb := bad (by
          cases e : sameN ⟨k, p, q, c, z⟩ ⟨k', p', q', c', z'⟩ with
          | false => rfl
          | true =>
            rw [sameN_iff] at e
            simp only [Nd.mk.injEq] at e
            obtain ⟨e1, e2, e3, e4, e5⟩ := e
            exact absurd ⟨e1, e2, e3, e5, by rw [e4]⟩ hd)
        clear bad step
        simp only [D0, SP0, seval, -Int.reduceNatCast', h', hga, hgb, eNd, eSet, hins, fins, idk, List.getLast?_cons_cons, List.getLast?_singleton, Option.getD_some, Option.isNone_none, Nat.reduceLT, lrc_x, apx, apart, apart1, needs, decide_true, Int.natCast_nonneg, Int.toNat_natCast]
        repeat' ((first | refine rw1_nsplit (fun h => ?_) (fun h => ?_) | refine rw1_split (fun h => ?_) (fun h => ?_) | refine dw1_nsplit (fun h => ?_) (fun h => ?_) | refine dw1_split (fun h => ?_) (fun h => ?_) | refine cg2_nsplit (fun h => ?_) (fun h => ?_) | refine cg2_split (fun h => ?_) (fun h => ?_)) <;> simp only [D0, SP0, seval, -Int.reduceNatCast', h, lrc_x])
        all_goals simp only [F1, SF0, SP0, seval, -Int.reduceNatCast', fn112_res, fn112_keep, hb]
        all_goals (refine absurd ?_ hd; clear hd hga hgb; simp_all; try omega)
    · have h' : ¬ (j : Int) < (a.length : Int) := by omega
      have he : sameT a b = true := by
        unfold sameT
        rw [all_true fun i h1 => hi i (by omega)]
        simp [hl]
      simp only [D0, SP0, seval, -Int.reduceNatCast', h', decide_false]
      refine .inr ⟨by simp, ?_⟩
      simp only [F1, SF0, SP0, seval, -Int.reduceNatCast', fn112_res, fn112_keep, he]
  · have hl' : ((a.length : Int) != (b.length : Int)) = true := by
      simp only [bne_iff_ne, ne_eq]
      omega
    have he : sameT a b = false := by simp [sameT, hl]
    simp only [fn112_body, c112, D0, SP0, seval, -Int.reduceNatCast', hl']
    simp only [F1, SF0, SP0, seval, -Int.reduceNatCast', fn112_res, fn112_keep, he]
noncomputable def k112 : Kon (List Nd × List Nd) := ⟨fun x => (∀ n ∈ x.1, n.set.length ≤ 600) ∧ x.1.length ≤ 9223372036854775807, fun x => [(AV.list 5 (List.map eNd x.1)), (AV.list 5 (List.map eNd x.2))], fun x => .bool (sameT x.1 x.2)⟩
theorem e112 (a : List Nd) (b : List Nd) (hd : (∀ n ∈ a, n.set.length ≤ 600) ∧ a.length ≤ 9223372036854775807) (q0 : Id) (H0 : Heap) : k112.ora q0 ([(AV.list 5 (List.map eNd a)), (AV.list 5 (List.map eNd b))]) H0 = some (.bool (sameT a b), H0) := k112.eq (tree2Inj) (a, b) hd q0 H0
theorem ook112 : OraOK Tryz.prog (74 % 100000) k112.ora := k112.ok orders s9_ok (fun x hd => by simp [k112, PU]) (fun x hd => by simp [k112, PU]) (fun x hd => run112 x.1 x.2 hd.1 hd.2)

noncomputable def q1 : FT := upd (upd (s9) 50 k81.ora) 74 k112.ora
theorem q1_ok : FTOK Tryz.prog q1 := upd_ok2 (f := 74) (upd_ok2 (f := 50) (s9_ok) ook81) ook112

end Go.Proofs.Abs

set_option maxRecDepth 100000
set_option maxHeartbeats 4000000
namespace Go.Proofs.Abs
open Go
theorem beq_no {a b : Int} (h : ¬ a = b) : (a == b) = false := by simpa using h
theorem bne_yes {a b : Int} (h : ¬ a = b) : (a != b) = true := by simpa using h
noncomputable def k42 : Kon (List Nd × List Nd) := ⟨fun x => (SmS x.1 ∧ SmS x.2) ∧ x.1.length ≤ 1000000 ∧ x.2.length ≤ 1000000, fun x => [(AV.list 5 (List.map eNd x.1)), (AV.list 5 (List.map eNd x.2))], fun x => (AV.list 5 (List.map eNd (encO (catT x.1 x.2))))⟩
theorem i42 : ∀ a b, k42.enc a = k42.enc b → a = b := tree2Inj
theorem e42 (a : List Nd) (b : List Nd) (hd : (SmS a ∧ SmS b) ∧ a.length ≤ 1000000 ∧ b.length ≤ 1000000) (q0 : Id) (H0 : Heap) : k42.ora q0 ([(AV.list 5 (List.map eNd a)), (AV.list 5 (List.map eNd b))]) H0 = some ((AV.list 5 (List.map eNd (encO (catT a b)))), H0) := k42.eq i42 (a, b) hd q0 H0
noncomputable def r42 (n : Nat) : Kon (List Nd × List Nd) := ⟨fun x => k42.dom x ∧ (fun x => x.2.length) x < n, k42.enc, k42.out⟩
theorem er42 {n : Nat} (a : List Nd) (b : List Nd) (hd : ((SmS a ∧ SmS b) ∧ a.length ≤ 1000000 ∧ b.length ≤ 1000000) ∧ (b.length) < n) (q0 : Id) (H0 : Heap) : (r42 n).ora q0 ([(AV.list 5 (List.map eNd a)), (AV.list 5 (List.map eNd b))]) H0 = some ((AV.list 5 (List.map eNd (encO (catT a b)))), H0) := (r42 n).eq i42 (a, b) hd q0 H0
noncomputable def z42 (n : Nat) : FT := updC (upd q1 31 (r42 n).ora) 200031 fn42

theorem run42 (n : Nat) (a b : List Nd) (hd : ((SmS a ∧ SmS b) ∧ a.length ≤ 1000000 ∧ b.length ≤ 1000000) ∧ b.length < n + 1) : cwp (z42 n) 200031 [] [(AV.list 5 (List.map eNd a)), (AV.list 5 (List.map eNd b))] [] (fun r H => r = (AV.list 5 (List.map eNd (encO (catT a b)))) ∧ H = []) := by
  refine run_fn (fn := fn42) rfl rfl ?_
  obtain ⟨⟨⟨sa, sb⟩, la, lb⟩, hn⟩ := hd
  have wa := sa.wf
  have wb := sb.wf
  by_cases g1 : goodT a = true
  case neg =>
    have g1' : goodT a = false := by simpa using g1
    have hr : catT a b = none := catT_no (.inl g1')
    simp only [fn42_body, c42, D0, SP0, seval, -Int.reduceNatCast', @use_all (z42 n) 17 k30.ora rfl, e30, wa, g1']
    simp only [F1, SF0, SP0, seval, -Int.reduceNatCast', fn42_res, fn42_keep, fz, fzd, fzd.fzcells, hr, encO]
  by_cases g2 : goodT b = true
  case neg =>
    have g2' : goodT b = false := by simpa using g2
    have hr : catT a b = none := catT_no (.inr g2')
    simp only [fn42_body, c42, D0, SP0, seval, -Int.reduceNatCast', @use_all (z42 n) 17 k30.ora rfl, e30, wa, wb, g1, g2']
    simp only [F1, SF0, SP0, seval, -Int.reduceNatCast', fn42_res, fn42_keep, fz, fzd, fzd.fzcells, hr, encO]
  obtain ⟨x, hx, rfl⟩ := okS_of ⟨sa, g1⟩
  obtain ⟨y, hy, rfl⟩ := okS_of ⟨sb, g2⟩
  rw [catT_enc hx hy]
  have nx := hx.ne
  have ny := hy.ne
  have kx := lastN_enc x
  have ky := lastN_enc y
  by_cases n1 : rk x = 0
  case pos =>
    have hr : catO x y = some never := by cases y <;> simp [catO, cat1, n1]
    simp only [fn42_body, c42, D0, SP0, seval, -Int.reduceNatCast', @use_all (z42 n) 17 k30.ora rfl, e30, @use_all (z42 n) 50 k81.ora rfl, e81, @use_all (z42 n) 30 k35.ora rfl, e35, wa, wb, g1, g2, nx, ny, kx, ky, n1, leafT0]
    simp only [F1, SF0, SP0, seval, -Int.reduceNatCast', fn42_res, fn42_keep, fz, fzd, fzd.fzcells, hr, encO]
  have m1 := beq_no n1
  by_cases n2 : rk y = 0
  case pos =>
    have hr : catO x y = some never := by rw [catO_no (by omega)]; simp [cat1, n2]
    simp only [fn42_body, c42, D0, SP0, seval, -Int.reduceNatCast', @use_all (z42 n) 17 k30.ora rfl, e30, @use_all (z42 n) 50 k81.ora rfl, e81, @use_all (z42 n) 30 k35.ora rfl, e35, wa, wb, g1, g2, nx, ny, kx, ky, m1, n2, leafT0]
    simp only [F1, SF0, SP0, seval, -Int.reduceNatCast', fn42_res, fn42_keep, fz, fzd, fzd.fzcells, hr, encO]
  have m2 := beq_no n2
  by_cases e1 : rk x = 1
  case pos =>
    have hr : catO x y = some y := by cases y <;> simp_all [catO, cat1]
    simp only [fn42_body, c42, D0, SP0, seval, -Int.reduceNatCast', @use_all (z42 n) 17 k30.ora rfl, e30, @use_all (z42 n) 50 k81.ora rfl, e81, wa, wb, g1, g2, nx, ny, kx, ky, m1, m2, e1]
    simp only [F1, SF0, SP0, seval, -Int.reduceNatCast', fn42_res, fn42_keep, fz, fzd, fzd.fzcells, hr, encO]
  have m3 := beq_no e1
  by_cases e2 : rk y = 1
  case pos =>
    have hr : catO x y = some x := by rw [catO_no (by omega)]; simp [cat1, n1, n2, e1, e2]
    simp only [fn42_body, c42, D0, SP0, seval, -Int.reduceNatCast', @use_all (z42 n) 17 k30.ora rfl, e30, @use_all (z42 n) 50 k81.ora rfl, e81, wa, wb, g1, g2, nx, ny, kx, ky, m1, m2, m3, e2]
    simp only [F1, SF0, SP0, seval, -Int.reduceNatCast', fn42_res, fn42_keep, fz, fzd, fzd.fzcells, hr, encO]
  have m4 := beq_no e2
  by_cases c2 : rk y = 3
  case neg =>
    have hr : catO x y = joinO 3 x y := by rw [catO_no c2]; simp [cat1, n1, n2, e1, e2]
    have m5 := beq_no c2
    obtain ⟨j1, j2⟩ := encO_join (k := 3) (.inl rfl) hx hy
    have hd : (SmS (enc x) ∧ SmS (enc y)) ∧ (enc x).length ≤ 1000000 ∧ (enc y).length ≤ 1000000 := ⟨⟨sa, sb⟩, la, lb⟩
    simp only [fn42_body, c42, D0, SP0, seval, -Int.reduceNatCast', @use_all (z42 n) 17 k30.ora rfl, e30, @use_all (z42 n) 50 k81.ora rfl, e81, @use_all (z42 n) 21 k25.ora rfl, e25, wa, wb, g1, g2, nx, ny, kx, ky, m1, m2, m3, m4, m5, hd, j1]
    simp only [F1, SF0, SP0, seval, -Int.reduceNatCast', fn42_res, fn42_keep, fz, fzd, fzd.fzcells, hr]
  obtain ⟨u, v, rfl⟩ := rk_cat hy.1 c2
  obtain ⟨h1, h2⟩ := hy.c
  obtain ⟨p1, p2, p3⟩ := hy.partsC
  have hl := hy.2
  rw [enc_len] at hn
  simp only [sz] at hn hl
  have hr : catO x (.cat u v) = (catO x u).bind fun c => catO c v := by simp [catO, n1, e1]
  have du : ((SmS (enc x) ∧ SmS (enc u)) ∧ (enc x).length ≤ 1000000 ∧ (enc u).length ≤ 1000000) ∧ (enc u).length < n := ⟨⟨⟨sa, h1.sm⟩, la, by have := h1.len; omega⟩, by rw [enc_len]; omega⟩
  have eu := catT_enc hx h1
  cases ec : catO x u with
  | none =>
    have hz0 : (((0 : Nat) : Int) == 0) = true := rfl
    simp only [fn42_body, c42, D0, SP0, seval, -Int.reduceNatCast', @use_all (z42 n) 17 k30.ora rfl, e30, @use_all (z42 n) 50 k81.ora rfl, e81, @use_all (z42 n) 51 k24.ora rfl, e24, @use_all (z42 n) 31 (r42 n).ora rfl, er42, wa, wb, sb, g1, g2, nx, ny, kx, ky, m1, m2, m3, m4, c2, p1, p2, p3, du, eu, ec, encO, hz0]
    simp only [F1, SF0, SP0, seval, -Int.reduceNatCast', fn42_res, fn42_keep, fz, fzd, fzd.fzcells, hr, ec, Option.bind_none, encO]
  | some c =>
    have hc := ok_catO hx h1 ec
    have ev := catT_enc hc h2
    have hz0 : (((enc c).length : Int) == 0) = false := beq_no (by have := hc.ne; omega)
    have dv : ((SmS (enc c) ∧ SmS (enc v)) ∧ (enc c).length ≤ 1000000 ∧ (enc v).length ≤ 1000000) ∧ (enc v).length < n := ⟨⟨⟨hc.sm, h2.sm⟩, by have := hc.len; omega, by have := h2.len; omega⟩, by rw [enc_len]; omega⟩
    simp only [fn42_body, c42, D0, SP0, seval, -Int.reduceNatCast', @use_all (z42 n) 17 k30.ora rfl, e30, @use_all (z42 n) 50 k81.ora rfl, e81, @use_all (z42 n) 51 k24.ora rfl, e24, @use_all (z42 n) 31 (r42 n).ora rfl, er42, wa, wb, sb, g1, g2, nx, ny, kx, ky, m1, m2, m3, m4, c2, p1, p2, p3, du, dv, eu, ev, ec, encO, hz0]
    simp only [F1, SF0, SP0, seval, -Int.reduceNatCast', fn42_res, fn42_keep, fz, fzd, fzd.fzcells, hr, ec, Option.bind_some]
theorem ook42 : OraOK Tryz.prog (31 % 100000) k42.ora := ora_rec (fun x => x.2.length) (fun a b _ _ h => i42 a b h) fun n h => (r42 (n + 1)).ok (f := 200031) orders (updC_ok (upd_ok2 (f := 31) q1_ok h) ok42) (fun x hd => by simp [r42, k42, PU]) (fun x hd => by simp [r42, k42, PU]) (fun x hd => run42 n x.1 x.2 hd)

theorem trInj : ∀ x y : Tr, OkS x → OkS y → [(AV.list 5 (List.map eNd (enc x)))] = [(AV.list 5 (List.map eNd (enc y)))] → x = y := by
  intro x y hx hy h
  simp only [List.cons.injEq, and_true] at h
  exact enc_injS hx hy (eTree_inj h)
noncomputable def q2 : FT := upd (q1) 31 k42.ora
theorem q2_ok : FTOK Tryz.prog q2 := upd_ok2 (f := 31) (q1_ok) ook42

end Go.Proofs.Abs

set_option maxRecDepth 100000
set_option maxHeartbeats 4000000
namespace Go.Proofs.Abs
open Go
noncomputable def q3 : FT := updC q2 200053 fn83b
theorem q3_ok : FTOK Tryz.prog q3 := updC_ok (f := 200053) q2_ok ok83b
def ValT (v : AV) (L : List Tr) (F : Fr) : Prop := (∃ id, v = .own id L.length ∧ ¬ id = [1] ∧ fget F id = some (.row true true 23 1 (List.map eTr1 L))) ∨ v = (AV.list 1 (List.map eTr1 L))
def sumZ (l : List Tr) : Nat := (l.map sz).sum
theorem mems_one {x : Tr} (h : ¬ rk x = 4) : mems x = [x] := by cases x <;> first | rfl | exact absurd rfl h
theorem run83 (t : List Nd) (hd : SmS t ∧ goodT t = true) : cwp q3 200053 [] [(AV.list 5 (List.map eNd t))] [] (fun v H => ∃ id, v = .own id (List.map eTr1 (mems (dec t))).length ∧ H = [[(id, .row true true 23 1 (List.map eTr1 (mems (dec t))))]]) := by
  refine run_fn (fn := fn83b) rfl rfl ?_
  obtain ⟨x, hx, rfl⟩ := okS_of hd
  rw [hx.dec]
  have hml := mems_len x
  have hz := hx.2
  simp only [fn83b_body, c83b, D0, SP0, seval, -Int.reduceNatCast', fz, fzd]
  refine lg_rule (fun j e H => ∃ (O L : List Tr) (v : AV) (F : Fr), e = [(0, (AV.list 5 (List.map eNd (enc x)))), (2, .own [0] 0), (3, .own [1] O.length), (4, v)] ∧ H = [F] ∧ fget F [1] = some (.row true true 23 1 (List.map eTr1 O)) ∧ ValT v L F ∧ O ++ L.flatMap mems = mems x ∧ j + sumZ L ≤ sz x ∧ (∀ y ∈ L, OkS y)) (sz x) ?_ ?_
  · exact ⟨[], [x], _, _, rfl, rfl, rfl, .inl ⟨_, rfl, by decide, rfl⟩, by simp, by simp [sumZ], fun y hy => by simp at hy; subst hy; exact hx⟩
  rintro j e H ⟨O, L, v, F, rfl, rfl, hF, hv, hO, hs, hok⟩
  cases L with
  | nil =>
    simp only [List.flatMap_nil, List.append_nil] at hO
    have hz0 : decide (((0 : Nat) : Int) > 0) = false := rfl
    rcases hv with ⟨id, rfl, hid, hFi⟩ | rfl
    · simp only [D0, SP0, seval, -Int.reduceNatCast', hFi, hz0]
      refine .inr ⟨by simp, ?_⟩
      simp only [F1, SF0, SP0, seval, -Int.reduceNatCast', fn83b_res, fn83b_keep, hF, hO]
      exact ⟨_, rfl, rfl⟩
    · simp only [D0, SP0, seval, -Int.reduceNatCast', hz0]
      refine .inr ⟨by simp, ?_⟩
      simp only [F1, SF0, SP0, seval, -Int.reduceNatCast', fn83b_res, fn83b_keep, hF, hO]
      exact ⟨_, rfl, rfl⟩
  | cons y R =>
    have hy := hok y (by simp)
    have hR : ∀ u ∈ R, OkS u := fun u hu => hok u (by simp [hu])
    have ny := hy.ne
    have ky := lastN_enc y
    have hpos : decide (((R.length + 1 : Nat) : Int) > 0) = true := by simp
    simp only [sumZ, List.map_cons, List.sum_cons] at hs
    have py := sz_pos y
    have hz1 : (0 : Int) ≤ 1 := by decide
    have htk : List.take R.length (List.map eTr1 R) = List.map eTr1 R := List.take_of_length_le (by simp)
    have hsz : R.length ≤ 40000 := by
      have : ∀ l : List Tr, l.length ≤ (l.map sz).sum := fun l => by
        induction l with
        | nil => simp
        | cons a l ih => have := sz_pos a; simp only [List.length_cons, List.map_cons, List.sum_cons]; omega
      have := this R
      omega
    have hp0 : (0 : Int) < ((R.length + 1 : Nat) : Int) := by omega
    have hcp : (1 + 1 + R.length) * 24 ≤ 140737488355328 := by omega
    have hco : (O.length + 1) * 24 ≤ 140737488355328 := by
      have := congrArg List.length hO
      simp only [List.length_append] at this
      omega
    have hl2 : (1 : Nat) ≤ R.length + 1 ∧ R.length + 1 ≤ R.length + 1 := by omega
    rcases hv with ⟨id, rfl, hid, hFi⟩ | rfl
    · have hf1 : ∀ o, fget (fset F id o) [1] = fget F [1] := fun o => by rw [fget_fset, if_neg (fun h => hid h.1)]
      have hfi : ∀ o, fget (fset F id o) id = some o := fun o => by rw [fget_fset]; simp [hFi]
      by_cases h4 : rk y = 4
      · obtain ⟨a, b, rfl⟩ := rk_alt hy.1 h4
        obtain ⟨o1, o2⟩ := hy.l
        obtain ⟨p1, p2, p3⟩ := hy.parts
        have sy := hy.sm
        simp only [D0, SP0, seval, -Int.reduceNatCast', @use_all q3 50 k81.ora rfl, e81, @use_all q3 51 k24.ora rfl, e24, hFi, hf1, hfi, hpos, hp0, hcp, hco, hz1, htk, hl2, eTr1, ny, ky, h4, sy, p1, p2, p3, fz, fzd, Int.le_refl, Int.reduceToNat, Nat.le_add_left, Nat.le_refl, List.length_map]
        refine .inl ⟨by omega, O, a :: b :: R, _, _, ⟨rfl, rfl⟩, rfl, ?_, .inl ⟨_, by congr 1; simp; omega, by simp, by simp [fget, eTr1]⟩, ?_, ?_, ?_⟩
        · simp [fget, hf1, hF]
        · rw [← hO]; simp [mems]
        · simp only [sumZ, List.map_cons, List.sum_cons, sz] at hs ⊢; omega
        · intro u hu
          simp only [List.mem_cons] at hu
          rcases hu with rfl | rfl | hu
          · exact o1
          · exact o2
          · exact hR u hu
      · have m4 := beq_no h4
        have hm := mems_one h4
        simp only [D0, SP0, seval, -Int.reduceNatCast', @use_all q3 50 k81.ora rfl, e81, @use_all q3 51 k24.ora rfl, e24, hFi, hf1, hfi, hpos, hp0, hcp, hco, hz1, htk, hl2, eTr1, ny, ky, m4, fz, fzd, hF, Int.le_refl, Int.reduceToNat, Nat.le_add_left, Nat.le_refl, List.length_map]
        refine .inl ⟨by omega, O ++ [y], R, _, _, ⟨by simp, rfl⟩, rfl, ?_, .inr rfl, ?_, ?_, hR⟩
        · simp [fget, fget_fset, hF, hid, eTr1]
        · rw [← hO]; simp [hm]
        · simp only [sumZ]; omega
    · by_cases h4 : rk y = 4
      · obtain ⟨a, b, rfl⟩ := rk_alt hy.1 h4
        obtain ⟨o1, o2⟩ := hy.l
        obtain ⟨p1, p2, p3⟩ := hy.parts
        have sy := hy.sm
        simp only [D0, SP0, seval, -Int.reduceNatCast', @use_all q3 50 k81.ora rfl, e81, @use_all q3 51 k24.ora rfl, e24, hpos, hp0, hcp, hco, hz1, htk, hl2, eTr1, ny, ky, h4, sy, p1, p2, p3, fz, fzd, Int.le_refl, Int.reduceToNat, Nat.le_add_left, Nat.le_refl, List.length_map]
        refine .inl ⟨by omega, O, a :: b :: R, _, _, ⟨rfl, rfl⟩, rfl, ?_, .inl ⟨_, by congr 1; simp; omega, by simp, by simp [fget, eTr1]⟩, ?_, ?_, ?_⟩
        · simp [fget, hF]
        · rw [← hO]; simp [mems]
        · simp only [sumZ, List.map_cons, List.sum_cons, sz] at hs ⊢; omega
        · intro u hu
          simp only [List.mem_cons] at hu
          rcases hu with rfl | rfl | hu
          · exact o1
          · exact o2
          · exact hR u hu
      · have m4 := beq_no h4
        have hm := mems_one h4
        simp only [D0, SP0, seval, -Int.reduceNatCast', @use_all q3 50 k81.ora rfl, e81, @use_all q3 51 k24.ora rfl, e24, hpos, hp0, hcp, hco, hz1, htk, hl2, eTr1, ny, ky, m4, fz, fzd, hF, Int.le_refl, Int.reduceToNat, Nat.le_add_left, Nat.le_refl, List.length_map]
        refine .inl ⟨by omega, O ++ [y], R, _, _, ⟨by simp, rfl⟩, rfl, ?_, .inr rfl, ?_, ?_, hR⟩
        · simp [fget, fget_fset, hF, eTr1]
        · rw [← hO]; simp [hm]
        · simp only [sumZ]; omega
noncomputable def k200083 : KonO (List Nd) := ⟨fun x => SmS x ∧ goodT x = true, fun x => [(AV.list 5 (List.map eNd x))], 23, 1, fun x => List.map eTr1 (mems (dec x))⟩
theorem e200083 (t : List Nd) (hd : SmS t ∧ goodT t = true) (q0 : Id) (H0 : Heap) : k200083.ora q0 ([(AV.list 5 (List.map eNd t))]) H0 = some (.own (q0 ++ [0]) (List.map eTr1 (mems (dec t))).length, hadd H0 (q0 ++ [0]) (.row true true 23 1 (List.map eTr1 (mems (dec t))))) := k200083.eq (treeInj) (t) hd q0 H0
theorem ook200083 : OraOK Tryz.prog (200053 % 100000) k200083.ora := k200083.ok orders q3_ok (fun x hd => by simp [k200083, PU]) (fun x hd => by dsimp only [k200083]; simp only [PU, pureL_eTr1]) (fun x hd => run83 x hd)

noncomputable def q4 : FT := upd q3 53 k200083.ora
theorem q4_ok : FTOK Tryz.prog q4 := upd_ok2 (f := 53) q3_ok ook200083
end Go.Proofs.Abs

set_option maxRecDepth 100000
set_option maxHeartbeats 4000000
namespace Go.Proofs.Abs
open Go
def hasStar (l : List Tr) : Bool := l.any fun t => decide (rk t = 5)
def keepF (s : Bool) (out : List Tr) (t : Tr) : List Tr := if t ∈ out ∨ (s = true ∧ rk t = 1) then out else out ++ [t]
theorem mem_noK {k : Int} {l : List Tr} {t : Tr} : t ∈ noK k l ↔ t ∈ l ∧ rk t ≠ k := by simp [noK, List.mem_filter]
theorem noK_app (k : Int) (l m : List Tr) : noK k (l ++ m) = noK k l ++ noK k m := by simp [noK]
theorem keepF_eq (s : Bool) : ∀ l : List Tr, l.foldl (keepF s) [] = if s then noK 1 (dedup l) else dedup l := by
  have key : ∀ l m : List Tr, l.foldl (keepF s) (if s then noK 1 (dedup m) else dedup m) = if s then noK 1 (dedup (m ++ l)) else dedup (m ++ l) := by
    intro l
    induction l with
    | nil => intro m; simp
    | cons t l ih =>
      intro m
      have e : keepF s (if s then noK 1 (dedup m) else dedup m) t = if s then noK 1 (dedup (m ++ [t])) else dedup (m ++ [t]) := by
        rw [dedup_snoc]
        unfold keepF
        cases s with
        | false => by_cases h : t ∈ dedup m <;> simp [h]
        | true =>
          by_cases h : t ∈ dedup m
          · by_cases h1 : rk t = 1
            · simp [h, h1]
            · simp [h, h1, mem_noK]
          · by_cases h1 : rk t = 1
            · simp [h, h1, noK_app, noK]
            · simp [h, h1, noK_app, mem_noK]
              simp [noK, h1]
      rw [List.foldl_cons, e, ih (m ++ [t]), List.append_assoc]
      rfl
  intro l
  have := key l []
  have e : (if s then noK 1 (dedup []) else dedup []) = ([] : List Tr) := by cases s <;> rfl
  rw [e, List.nil_append] at this
  exact this
theorem hasStar_dedup (l : List Tr) : hasStar (dedup l) = hasStar l := by
  unfold hasStar
  rw [Bool.eq_iff_iff, List.any_eq_true, List.any_eq_true]
  constructor
  · rintro ⟨t, h1, h2⟩; exact ⟨t, (dedup_mem l t).1 h1, h2⟩
  · rintro ⟨t, h1, h2⟩; exact ⟨t, (dedup_mem l t).2 h1, h2⟩
theorem onceT_eq (l : List Tr) : onceT l = l.foldl (keepF (hasStar l)) [] := by
  rw [keepF_eq, ← hasStar_dedup]
  rfl
theorem hasStar_snoc (l : List Tr) (t : Tr) : hasStar (l ++ [t]) = (hasStar l || decide (rk t = 5)) := by simp [hasStar]
theorem keepF_sub (s : Bool) (l : List Tr) : List.Sublist (l.foldl (keepF s) []) l := by
  rw [keepF_eq]
  split
  · exact List.filter_sublist.trans (dedup_sub l)
  · exact dedup_sub l
theorem keepF_snoc (s : Bool) (l : List Tr) (t : Tr) : (l ++ [t]).foldl (keepF s) [] = keepF s (l.foldl (keepF s) []) t := by rw [List.foldl_append]; rfl
theorem any_take {l : List Tr} {j : Nat} (h : j < l.length) (t : Tr) : decide (t ∈ l.take (j + 1)) = (decide (t ∈ l.take j) || decide (l.getD j default = t)) := by
  rw [take_snocT h, Bool.eq_iff_iff]
  simp only [decide_eq_true_eq, Bool.or_eq_true, List.mem_append, List.mem_singleton]
  exact or_congr Iff.rfl ⟨Eq.symm, Eq.symm⟩
theorem run82 (l : List Tr) (ho : ∀ t ∈ l, OkS t) (hl : l.length ≤ 100000) (hne : l ≠ []) : cwp q4 52 [] [(AV.list 1 (List.map eTr1 l))] [] (fun r H => r = (AV.list 5 (List.map eNd (encO (altLO (onceT l))))) ∧ H = []) := by
  refine run_fn (fn := fn82) rfl rfl ?_
  simp (maxSteps := 2000000) only [fn82_body, c82, D0, SP0, seval, -Int.reduceNatCast']
  refine lg_rule (fun j e H => e = [(0, (AV.list 1 (List.map eTr1 l))), (2, .own [0] 0), (3, .own [1] 0), (4, .bool (hasStar (l.take j))), (5, .int .i64 j)] ∧ H = [[([1], .row true true 23 1 []), ([0], .row true true 39 5 [])]] ∧ j ≤ l.length) l.length ?_ ?_
  · exact ⟨rfl, rfl, by simp⟩
  rintro j e H ⟨rfl, rfl, hj⟩
  simp only [D0, SP0, seval, -Int.reduceNatCast']
  by_cases h : j < l.length
  case pos =>
    have h' : (j : Int) < (l.length : Int) := by omega
    have hp := wrapp (j := j) (by omega)
    have hg := map_get (f := eTr1) h default
    have hok := ho _ (getD_memT h)
    have hsn := hasStar_snoc (l.take j) (l.getD j default)
    rw [← take_snocT h] at hsn
    generalize l.getD j default = x at hg hok hsn
    simp only [eTr1] at hg
    have nx := hok.ne
    have kx := lastN_enc x
    by_cases hs : hasStar (l.take j) = true
    · rw [hs] at hsn
      simp only [D0, SP0, seval, -Int.reduceNatCast', h', hs, hp]
      simp only [F1, SF0, SP0, seval, -Int.reduceNatCast', hsn]
      exact ⟨h, by omega⟩
    · have hs' : hasStar (l.take j) = false := by simpa using hs
      rw [hs', Bool.false_or] at hsn
      have e5 : (rk x == 5) = decide (rk x = 5) := by rw [Bool.eq_iff_iff]; simp
      simp only [D0, SP0, seval, -Int.reduceNatCast', @use_all q4 50 k81.ora rfl, e81, h', hs', hg, nx, kx, e5, hp, Int.natCast_nonneg, Int.toNat_natCast]
      simp only [F1, SF0, SP0, seval, -Int.reduceNatCast', hsn]
      exact ⟨h, by omega⟩
  have h' : ¬ (j : Int) < (l.length : Int) := by omega
  have hj2 : j = l.length := by omega
  subst hj2
  have hon := onceT_eq l
  simp only [D0, SP0, seval, -Int.reduceNatCast', h', decide_false, List.take_length]
  refine .inr ⟨by simp, ?_⟩
  generalize hasStar l = s at hon
  have hksub := keepF_sub s
  refine lg_rule (fun j e H => ∃ K, K = (l.take j).foldl (keepF s) [] ∧ e = [(0, (AV.list 1 (List.map eTr1 l))), (2, .own [0] 0), (3, .own [1] K.length), (4, .bool s), (5, .int .i64 l.length), (6, .int .i64 j)] ∧ H = [[([1], .row true true 23 1 (List.map eTr1 K)), ([0], .row true true 39 5 [])]] ∧ j ≤ l.length) l.length ?_ ?_
  · exact ⟨[], rfl, rfl, rfl, by simp⟩
  clear h h' hj
  rintro j e H ⟨K, hK, rfl, rfl, hj⟩
  have hKo : ∀ t ∈ K, OkS t := fun t ht => ho t (List.mem_of_mem_take ((hksub _).subset (hK ▸ ht)))
  have hKl : K.length ≤ 100000 := by
    have := (hksub (l.take j)).length_le
    rw [← hK] at this
    simp at this
    omega
  simp (maxSteps := 2000000) only [D0, SP0, seval, -Int.reduceNatCast']
  by_cases h : j < l.length
  case pos =>
    have h' : (j : Int) < (l.length : Int) := by omega
    have hp := wrapp (j := j) (by omega)
    have hg := map_get (f := eTr1) h default
    have hok := ho _ (getD_memT h)
    have hsn := keepF_snoc s (l.take j) (l.getD j default)
    rw [← take_snocT h, ← hK] at hsn
    generalize l.getD j default = x at hg hok hsn
    simp only [eTr1] at hg
    have nx := hok.ne
    have kx := lastN_enc x
    simp (maxSteps := 2000000) only [D0, SP0, seval, -Int.reduceNatCast', h']
    refine lg_rule (fun m e H => e = [(0, (AV.list 1 (List.map eTr1 l))), (2, .own [0] 0), (3, .own [1] K.length), (4, .bool s), (5, .int .i64 l.length), (6, .int .i64 j), (7, .bool (decide (x ∈ K.take m))), (8, .int .i64 m)] ∧ H = [[], [([1], .row true true 23 1 (List.map eTr1 K)), ([0], .row true true 39 5 [])]] ∧ m ≤ K.length) K.length ?_ ?_
    · exact ⟨by simp, rfl, by simp⟩
    rintro m e H ⟨rfl, rfl, hm⟩
    simp (maxSteps := 2000000) only [D0, SP0, seval, -Int.reduceNatCast']
    by_cases h2 : m < K.length
    · have h2' : (m : Int) < (K.length : Int) := by omega
      have hpm := wrapp (j := m) (by omega)
      have hgm := map_get (f := eTr1) h2 default
      have hok2 := hKo _ (getD_memT h2)
      have hat := any_take h2 x
      generalize K.getD m default = y at hgm hok2 hat
      simp only [eTr1] at hgm
      have hd : (∀ n ∈ enc y, n.set.length ≤ 600) ∧ (enc y).length ≤ 9223372036854775807 := ⟨hok2.sm.set, hok2.ne.2⟩
      have hsm := sameT_enc hok2 hok
      have e112' := e112 (enc y) (enc x) hd
      by_cases ha : x ∈ K.take m
      · rw [decide_eq_true ha, Bool.true_or] at hat
        simp only [D0, SP0, seval, -Int.reduceNatCast', h2', ha, hpm, lrc_x, apx, apart, apart1, needs, decide_true]
        simp only [F1, SF0, SP0, seval, -Int.reduceNatCast', hat]
        exact ⟨h2, by omega⟩
      · rw [decide_eq_false ha, Bool.false_or] at hat
        simp only [D0, SP0, seval, -Int.reduceNatCast', @use_all q4 74 k112.ora rfl, e112', hsm, h2', hg, hgm, ha, hpm, h', lrc_x, apx, apart, apart1, needs, decide_true, decide_false, Int.natCast_nonneg, Int.toNat_natCast, List.length_map]
        simp only [F1, SF0, SP0, seval, -Int.reduceNatCast', hat]
        exact ⟨h2, by omega⟩
    · have h2' : ¬ (m : Int) < (K.length : Int) := by omega
      have hm2 : m = K.length := by omega
      subst hm2
      simp only [D0, SP0, seval, -Int.reduceNatCast', h2', decide_false, List.take_length]
      refine .inr ⟨by simp, ?_⟩
      unfold keepF at hsn
      have hcap : (K.length + 1) * 24 ≤ 140737488355328 := by omega
      have he : List.map eTr1 K ++ [[AV.list 5 (List.map eNd (enc x))]] = List.map eTr1 (K ++ [x]) := by simp [eTr1]
      have e1 : (rk x != 1) = !decide (rk x = 1) := by rw [Bool.eq_iff_iff]; simp
      by_cases ha : x ∈ K
      · rw [if_pos (.inl ha)] at hsn
        simp only [D0, SP0, seval, -Int.reduceNatCast', ha, hp]
        simp only [F1, SF0, SP0, seval, -Int.reduceNatCast']
        exact ⟨h, K, hsn.symm, rfl, rfl, by omega⟩
      · cases s with
        | false =>
          rw [if_neg (by simp [ha])] at hsn
          simp only [D0, SP0, seval, -Int.reduceNatCast', ha, hp, hg, h', hcap, he, fz, fzd, Int.natCast_nonneg, Int.toNat_natCast]
          simp only [F1, SF0, SP0, seval, -Int.reduceNatCast']
          exact ⟨h, K ++ [x], hsn.symm, by simp, rfl, by omega⟩
        | true =>
          by_cases h1 : rk x = 1
          · rw [if_pos (.inr ⟨rfl, h1⟩)] at hsn
            simp only [D0, SP0, seval, -Int.reduceNatCast', @use_all q4 50 k81.ora rfl, e81, nx, kx, e1, h1, ha, hp, hg, h', Int.natCast_nonneg, Int.toNat_natCast]
            simp only [F1, SF0, SP0, seval, -Int.reduceNatCast']
            exact ⟨h, K, hsn.symm, rfl, rfl, by omega⟩
          · rw [if_neg (by simp [ha, h1])] at hsn
            simp only [D0, SP0, seval, -Int.reduceNatCast', @use_all q4 50 k81.ora rfl, e81, nx, kx, e1, h1, ha, hp, hg, h', hcap, he, fz, fzd, Int.natCast_nonneg, Int.toNat_natCast]
            simp only [F1, SF0, SP0, seval, -Int.reduceNatCast']
            exact ⟨h, K ++ [x], hsn.symm, by simp, rfl, by omega⟩
  have h' : ¬ (j : Int) < (l.length : Int) := by omega
  have hj2 : j = l.length := by omega
  subst hj2
  rw [List.take_length] at hK
  rw [← hK] at hon
  have hKne : K ≠ [] := by rw [← hon]; exact onceT_ne hne
  rw [hon]
  clear hK hon hksub
  simp only [D0, SP0, seval, -Int.reduceNatCast', h', decide_false]
  refine .inr ⟨by simp, ?_⟩
  cases K with
  | nil => exact absurd rfl hKne
  | cons x0 r =>
    have h0 := hKo x0 (by simp)
    have hrr : ∀ t ∈ r, OkS t := fun t ht => hKo t (by simp [ht])
    have hp0 : (0 : Int) < ((r.length + 1 : Nat) : Int) := by omega
    simp only [D0, SP0, seval, -Int.reduceNatCast', hp0, eTr1, Int.le_refl, Int.reduceToNat]
    refine lg_rule (fun j e H => ∃ o : Option Tr, e = [(0, (AV.list 1 (List.map eTr1 l))), (2, .own [0] 0), (3, .own [1] (r.length + 1)), (4, .bool s), (5, .int .i64 l.length), (6, .int .i64 l.length), (9, (AV.list 5 (List.map eNd (encO o)))), (10, .int .i64 (j + 1 : Nat))] ∧ H = [[([1], .row true true 23 1 ([(AV.list 5 (List.map eNd (enc x0)))] :: List.map eTr1 r)), ([0], .row true true 39 5 [])]] ∧ j ≤ r.length ∧ (∀ c, o = some c → OkS c) ∧ altsO x0 r = o.bind fun c => altsO c (r.drop j)) r.length ?_ ?_
    · exact ⟨some x0, rfl, rfl, by simp, fun c hc => by injection hc with hc; subst hc; exact h0, rfl⟩
    rintro j e H ⟨o, rfl, rfl, hj, hoo, hO⟩
    simp only [D0, SP0, seval, -Int.reduceNatCast']
    have hlr : r.length + 1 ≤ 100000 := by simpa using hKl
    cases o with
    | none =>
      have hn : altLO (x0 :: r) = none := hO
      have hz0 : decide (((0 : Nat) : Int) > 0) = false := rfl
      by_cases h : j < r.length
      · have h' : ((j + 1 : Nat) : Int) < ((r.length + 1 : Nat) : Int) := by omega
        simp only [D0, SP0, seval, -Int.reduceNatCast', h', encO, hz0]
        refine .inr ⟨by simp, ?_⟩
        simp only [F1, SF0, SP0, seval, -Int.reduceNatCast', fn82_res, fn82_keep, fz, fzd, fzd.fzcells, hn, encO]
      · have h' : ¬ ((j + 1 : Nat) : Int) < ((r.length + 1 : Nat) : Int) := by omega
        simp only [D0, SP0, seval, -Int.reduceNatCast', h', encO]
        refine .inr ⟨by simp, ?_⟩
        simp only [F1, SF0, SP0, seval, -Int.reduceNatCast', fn82_res, fn82_keep, fz, fzd, fzd.fzcells, hn, encO]
    | some c =>
      have hc := hoo c rfl
      have hln : decide (((enc c).length : Int) > 0) = true := by have := hc.ne; simp; omega
      by_cases h : j < r.length
      · have h' : ((j + 1 : Nat) : Int) < ((r.length + 1 : Nat) : Int) := by omega
        have hp := wrapp (j := j + 1) (by omega)
        have hg := map_get (f := eTr1) h default
        have hy := hrr _ (getD_memT h)
        have hst := altsO_step (c := c) h rfl
        generalize r.getD j default = y at hg hy hst
        simp only [eTr1] at hg
        obtain ⟨j1, j2⟩ := encO_join (k := 4) (.inr rfl) hc hy
        have hd : (SmS (enc c) ∧ SmS (enc y)) ∧ (enc c).length ≤ 1000000 ∧ (enc y).length ≤ 1000000 := ⟨⟨hc.sm, hy.sm⟩, by have := hc.len; omega, by have := hy.len; omega⟩
        simp only [D0, SP0, seval, -Int.reduceNatCast', @use_all q4 21 k25.ora rfl, e25, hd, j1, h', encO, hln, hp, hg, Int.natCast_nonneg, Int.toNat_natCast]
        simp only [F1, SF0, SP0, seval, -Int.reduceNatCast']
        exact ⟨h, _, rfl, h, fun d hd => ok_joinO hc hy hd, by rw [hO]; exact hst⟩
      · have h' : ¬ ((j + 1 : Nat) : Int) < ((r.length + 1 : Nat) : Int) := by omega
        have hj2 : j = r.length := by omega
        subst hj2
        rw [List.drop_length] at hO
        have hn : altLO (x0 :: r) = some c := hO
        simp only [D0, SP0, seval, -Int.reduceNatCast', h', encO]
        refine .inr ⟨by simp, ?_⟩
        simp only [F1, SF0, SP0, seval, -Int.reduceNatCast', fn82_res, fn82_keep, fz, fzd, fzd.fzcells, hn, encO]
noncomputable def k82 : Kon (List Tr) := ⟨fun x => (∀ t ∈ x, OkS t) ∧ x.length ≤ 100000 ∧ x ≠ [], fun x => [(AV.list 1 (List.map eTr1 x))], fun x => (AV.list 5 (List.map eNd (encO (altLO (onceT x)))))⟩
theorem e82 (l : List Tr) (hd : (∀ t ∈ l, OkS t) ∧ l.length ≤ 100000 ∧ l ≠ []) (q0 : Id) (H0 : Heap) : k82.ora q0 ([(AV.list 1 (List.map eTr1 l))]) H0 = some ((AV.list 5 (List.map eNd (encO (altLO (onceT l))))), H0) := k82.eqD (by dsimp only [k82]; intro l m hl hm h; simp only [List.cons.injEq, AV.list.injEq, and_true, true_and] at h; exact eTr1_inj hl.1 hm.1 h) (l) hd q0 H0
theorem ook82 : OraOK Tryz.prog (52 % 100000) k82.ora := k82.ok orders q4_ok (fun x hd => by simp [k82, PU, pure_eTr1]) (fun x hd => by simp [k82, PU]) (fun x hd => run82 x hd.1 hd.2.1 hd.2.2)

noncomputable def q5 : FT := upd (q4) 52 k82.ora
theorem q5_ok : FTOK Tryz.prog q5 := upd_ok2 (f := 52) (q4_ok) ook82

end Go.Proofs.Abs

set_option maxRecDepth 100000
set_option maxHeartbeats 4000000
namespace Go.Proofs.Abs
open Go
theorem run43 (a b : List Nd) (sa : SmS a) (sb : SmS b) (la : a.length ≤ 1000000) (lb : b.length ≤ 1000000) : cwp q5 33 [] [(AV.list 5 (List.map eNd a)), (AV.list 5 (List.map eNd b))] [] (fun r H => r = (AV.list 5 (List.map eNd (encO (altT a b)))) ∧ H = []) := by
  refine run_fn (fn := fn43) rfl rfl ?_
  have wa := sa.wf
  have wb := sb.wf
  by_cases g1 : goodT a = true
  case neg =>
    have g1' : goodT a = false := by simpa using g1
    have hr : altT a b = none := altT_no (.inl g1')
    simp only [fn43_body, c43, D0, SP0, seval, -Int.reduceNatCast', @use_all q5 17 k30.ora rfl, e30, wa, g1']
    simp only [F1, SF0, SP0, seval, -Int.reduceNatCast', fn43_res, fn43_keep, fz, fzd, fzd.fzcells, hr, encO]
  by_cases g2 : goodT b = true
  case neg =>
    have g2' : goodT b = false := by simpa using g2
    have hr : altT a b = none := altT_no (.inr g2')
    simp only [fn43_body, c43, D0, SP0, seval, -Int.reduceNatCast', @use_all q5 17 k30.ora rfl, e30, wa, wb, g1, g2']
    simp only [F1, SF0, SP0, seval, -Int.reduceNatCast', fn43_res, fn43_keep, fz, fzd, fzd.fzcells, hr, encO]
  obtain ⟨x, hx, rfl⟩ := okS_of ⟨sa, g1⟩
  obtain ⟨y, hy, rfl⟩ := okS_of ⟨sb, g2⟩
  rw [altT_enc hx hy]
  have nx := hx.ne
  have ny := hy.ne
  have kx := lastN_enc x
  have ky := lastN_enc y
  by_cases n1 : rk x = 0
  case pos =>
    have hr : altO x y = some y := by simp [altO, n1]
    simp only [fn43_body, c43, D0, SP0, seval, -Int.reduceNatCast', @use_all q5 17 k30.ora rfl, e30, @use_all q5 50 k81.ora rfl, e81, wa, wb, g1, g2, nx, ny, kx, ky, n1]
    simp only [F1, SF0, SP0, seval, -Int.reduceNatCast', fn43_res, fn43_keep, fz, fzd, fzd.fzcells, hr, encO]
  have m1 := beq_no n1
  by_cases n2 : rk y = 0
  case pos =>
    have hr : altO x y = some x := by simp [altO, n1, n2]
    simp only [fn43_body, c43, D0, SP0, seval, -Int.reduceNatCast', @use_all q5 17 k30.ora rfl, e30, @use_all q5 50 k81.ora rfl, e81, wa, wb, g1, g2, nx, ny, kx, ky, m1, n2]
    simp only [F1, SF0, SP0, seval, -Int.reduceNatCast', fn43_res, fn43_keep, fz, fzd, fzd.fzcells, hr, encO]
  have m2 := beq_no n2
  have hr : altO x y = altLO (onceT (mems x ++ mems y)) := by simp [altO, n1, n2]
  have dx : SmS (enc x) ∧ goodT (enc x) = true := ⟨sa, g1⟩
  have dy : SmS (enc y) ∧ goodT (enc y) = true := ⟨sb, g2⟩
  have ex := hx.dec
  have ey := hy.dec
  have s1 := mems_len x
  have s2 := mems_len y
  have z1 := hx.2
  have z2 := hy.2
  have hne : mems x ++ mems y ≠ [] := by simp [mems_ne]
  have dl : (∀ t ∈ mems x ++ mems y, OkS t) ∧ (mems x ++ mems y).length ≤ 100000 ∧ mems x ++ mems y ≠ [] := ⟨fun t ht => by
    rcases List.mem_append.1 ht with h | h
    · exact hx.mems t h
    · exact hy.mems t h, by simp only [List.length_append]; omega, hne⟩
  have e82' := e82 (mems x ++ mems y) dl
  have hc : ((mems x).length + (mems y).length) * 24 ≤ 140737488355328 := by omega
  simp only [fn43_body, c43, D0, SP0, seval, -Int.reduceNatCast', @use_all q5 17 k30.ora rfl, e30, @use_all q5 50 k81.ora rfl, e81, @use_all q5 53 k200083.ora rfl, e200083, @use_all q5 52 k82.ora rfl, e82', dx, dy, ex, ey, hc, fz, fzd, eTr1_app, wa, wb, g1, g2, nx, ny, kx, ky, m1, m2, List.length_append]
  simp only [F1, SF0, SP0, seval, -Int.reduceNatCast', fn43_res, fn43_keep, fz, fzd, fzd.fzcells, hr]
noncomputable def k43 : Kon (List Nd × List Nd) := ⟨fun x => (SmS x.1 ∧ SmS x.2) ∧ x.1.length ≤ 1000000 ∧ x.2.length ≤ 1000000, fun x => [(AV.list 5 (List.map eNd x.1)), (AV.list 5 (List.map eNd x.2))], fun x => (AV.list 5 (List.map eNd (encO (altT x.1 x.2))))⟩
theorem e43 (a : List Nd) (b : List Nd) (hd : (SmS a ∧ SmS b) ∧ a.length ≤ 1000000 ∧ b.length ≤ 1000000) (q0 : Id) (H0 : Heap) : k43.ora q0 ([(AV.list 5 (List.map eNd a)), (AV.list 5 (List.map eNd b))]) H0 = some ((AV.list 5 (List.map eNd (encO (altT a b)))), H0) := k43.eq (tree2Inj) (a, b) hd q0 H0
theorem ook43 : OraOK Tryz.prog (33 % 100000) k43.ora := k43.ok orders q5_ok (fun x hd => by simp [k43, PU]) (fun x hd => by simp [k43, PU]) (fun x hd => run43 x.1 x.2 hd.1.1 hd.1.2 hd.2.1 hd.2.2)

noncomputable def q6 : FT := upd (q5) 33 k43.ora
theorem q6_ok : FTOK Tryz.prog q6 := upd_ok2 (f := 33) (q5_ok) ook43

end Go.Proofs.Abs

set_option maxRecDepth 100000
set_option maxHeartbeats 4000000
namespace Go.Proofs.Abs
open Go
theorem noK_snoc (l : List Tr) (t : Tr) : noK 1 (l ++ [t]) = if rk t = 1 then noK 1 l else noK 1 l ++ [t] := by
  rw [noK_app]
  by_cases h : rk t = 1 <;> simp [noK, h]
noncomputable def q7 : FT := q6
theorem q7_ok : FTOK Tryz.prog q7 := q6_ok

end Go.Proofs.Abs

set_option maxRecDepth 100000
set_option maxHeartbeats 4000000
namespace Go.Proofs.Abs
open Go
noncomputable def q8 : FT := q7
theorem q8_ok : FTOK Tryz.prog q8 := q7_ok

end Go.Proofs.Abs
