/- A part of a proof: the text that states the row tells what is proved. No condition is laid on anything. -/
import Derived.Test.YtgcncpedpjjjeaaAbs25
set_option linter.all false
set_option linter.constructorNameAsVariable false
set_option linter.defProp false
set_option linter.unusedVariables false
set_option linter.unusedSimpArgs false
namespace Go.Proofs.Abs
open Go

theorem edrop_nil (l : List Nat) : edrop [] l = [] := rfl
theorem edrop_cons (i : Nat) (v : AV) (r : Env) (l : List Nat) : edrop ((i, v) :: r) l = if l.contains i = true then edrop r l else (i, v) :: edrop r l := by
  unfold edrop
  by_cases h : l.contains i = true
  · rw [if_pos h, List.filter_cons_of_neg (by simpa using h)]
  · rw [if_neg h, List.filter_cons_of_pos (by simpa using h)]
theorem ekeep_nil (l : List Nat) : ekeep [] l = [] := rfl
theorem ekeep_cons (i : Nat) (v : AV) (r : Env) (l : List Nat) : ekeep ((i, v) :: r) l = if l.contains i = true then (i, v) :: ekeep r l else ekeep r l := by
  unfold ekeep
  by_cases h : l.contains i = true
  · rw [if_pos h, List.filter_cons_of_pos (by simpa using h)]
  · rw [if_neg h, List.filter_cons_of_neg (by simpa using h)]
theorem wrap64 {n : Int} (h1 : -9223372036854775808 ≤ n) (h2 : n ≤ 9223372036854775807) : IntKind.i64.wrap n = n := by
  simp only [IntKind.wrap, IntKind.bits, IntKind.signed]
  simp
  split <;> omega
theorem fz_bool (H : Heap) (b : Bool) : fz H (.bool b) = some (.bool b, H) := rfl
theorem fz_int (H : Heap) (k : IntKind) (n : Int) : fz H (.int k n) = some (.int k n, H) := rfl
theorem fz_list (H : Heap) (z : Nat) (r : List (List AV)) : fz H (.list z r) = some (.list z r, H) := rfl
theorem fz_nils (H : Heap) : fz H .nils = some (.nils, H) := rfl
theorem fz_str (H : Heap) (s : ByteArray) : fz H (.str s) = some (.str s, H) := rfl
theorem fz_own (H : Heap) (id : Id) (n : Nat) {wr : Bool} {e z : Nat} {rows : List (List AV)} (h : hget H id = some (.row wr true e z rows)) (hn : rows.length = n) : fz H (.own id n) = some (.list z rows, hset H id (.row false true e z rows)) := by
  simp [fz, fzd, h, hn]

/-- A call of a contract, as a value. -/
def cgs (ft : FT) (o : Option (AV × Heap)) (d : Option Nat) (r : List AIn) (k : Nat) (drop : List Nat) (ks : List Kt) (Q : Fin) (s : St) : Prop :=
  ob o fun y => rg ft r k drop ks Q { s with env := putd s.env d y.1, heap := y.2, k := s.k + 1 }
def dcgs (ft : FT) (o : Option (AV × Heap)) (i : AIn) (r : List AIn) (k : Nat) (l : List Rec) (drop : List Nat) (ks : List Kt) (Q : Fin) (s : St) : Prop :=
  ob o fun y => dn ft (dnext (clsOf i.i s.env) y.1 s { s with heap := y.2, k := s.k + 1 }) i r k l drop ks Q s
section
variable {ft : FT} {ks : List Kt} {Q : Fin} {s : St} {drop : List Nat} {k : Nat} {d : Option Nat} {r : List AIn} {l : List Rec} {i : AIn}
theorem cwp_ora {f : Nat} {spec : Id → List AV → Heap → Option (AV × Heap)} {q : Id} {a : List AV} {H : Heap} {K : AV → Heap → Prop} (hf : ft f = some (.ora spec)) : cwp ft f q a H K = ob (spec q a H) fun y => K y.1 y.2 := by
  apply propext
  constructor
  · rintro ⟨v, H2, ⟨N, hN⟩, hK⟩
    have := hN (N + 1) (by omega)
    simp only [acall, hf] at this
    exact ⟨(v, H2), this, hK⟩
  · rintro ⟨⟨v, H2⟩, h, hK⟩
    exact ⟨v, H2, .succ (.of fun n => by simp only [acall, hf, h]), hK⟩
theorem cg_spec {f : Nat} {spec : Id → List AV → Heap → Option (AV × Heap)} (hf : ft f = some (.ora spec)) {q : Id} {a : List AV} {H : Heap} : cg ft f q a H d r k drop ks Q s = cgs ft (spec q a H) d r k drop ks Q s := cwp_ora hf
theorem dcg_spec {f : Nat} {spec : Id → List AV → Heap → Option (AV × Heap)} (hf : ft f = some (.ora spec)) {q : Id} {a : List AV} {H : Heap} : dcg ft f q a H i r k l drop ks Q s = dcgs ft (spec q a H) i r k l drop ks Q s := cwp_ora hf
theorem cgs_some (v : AV) (H : Heap) : cgs ft (some (v, H)) d r k drop ks Q s = rg ft r k drop ks Q { s with env := putd s.env d v, heap := H, k := s.k + 1 } := by simp [cgs, ob]
theorem dcgs_some (v : AV) (H : Heap) : dcgs ft (some (v, H)) i r k l drop ks Q s = dn ft (dnext (clsOf i.i s.env) v s { s with heap := H, k := s.k + 1 }) i r k l drop ks Q s := by simp [dcgs, ob]
theorem cg2_split {b : Bool} {x y : ACode} (h1 : b = true → run ft x ks Q s) (h2 : b = false → run ft y ks Q s) : cg2 ft (.bool b) x y ks Q s := by
  cases b
  · rw [cg2_false]; exact h2 rfl
  · rw [cg2_true]; exact h1 rfl
end
section
variable {ft : FT} {ks : List Kt} {Q : Fin} {s : St} {drop : List Nat} {k : Nat} {r : List AIn} {l : List Rec} {i : AIn}
theorem cg2_nsplit {b : Bool} {x y : ACode} (h1 : b = true → run ft y ks Q s) (h2 : b = false → run ft x ks Q s) : cg2 ft (.bool (!b)) x y ks Q s := by
  cases b
  · simp only [Bool.not_false, cg2_true]; exact h2 rfl
  · simp only [Bool.not_true, cg2_false]; exact h1 rfl
theorem rw1_split {b : Bool} (h1 : b = true → ri ft i.i i.d r (k + 1) drop ks Q { s with k := k }) (h2 : b = false → rg ft r (k + 1) drop ks Q { s with env := putd s.env i.d (.tuple []) }) : rw1 ft (some b) i r k drop ks Q s := by
  cases b
  · rw [rw1_false]; exact h2 rfl
  · rw [rw1_true]; exact h1 rfl
theorem rw1_nsplit {b : Bool} (h1 : b = true → rg ft r (k + 1) drop ks Q { s with env := putd s.env i.d (.tuple []) }) (h2 : b = false → ri ft i.i i.d r (k + 1) drop ks Q { s with k := k }) : rw1 ft (some (!b)) i r k drop ks Q s := by
  cases b
  · simp only [Bool.not_false, rw1_true]; exact h2 rfl
  · simp only [Bool.not_true, rw1_false]; exact h1 rfl
theorem dw1_split {b : Bool} (h1 : b = true → di ft i.i i r k l drop ks Q { s with k := k }) (h2 : b = false → dg ft r (k + 1) (l ++ [⟨.l, i.pre, s.p ++ [k]⟩]) drop ks Q { s with env := putd s.env i.d (.tuple []), k := k }) : dw1 ft (some b) i r k l drop ks Q s := by
  cases b
  · rw [dw1_false]; exact h2 rfl
  · rw [dw1_true]; exact h1 rfl
theorem dw1_nsplit {b : Bool} (h1 : b = true → dg ft r (k + 1) (l ++ [⟨.l, i.pre, s.p ++ [k]⟩]) drop ks Q { s with env := putd s.env i.d (.tuple []), k := k }) (h2 : b = false → di ft i.i i r k l drop ks Q { s with k := k }) : dw1 ft (some (!b)) i r k l drop ks Q s := by
  cases b
  · simp only [Bool.not_false, dw1_true]; exact h2 rfl
  · simp only [Bool.not_true, dw1_false]; exact h1 rfl
end
/-- Only operations that read, and calls that stand behind one another. -/
def lrc (cs : List Nat) (i : Nat) : List Rec → Bool
  | [] => true
  | ⟨.l, _, _⟩ :: l => lrc cs (i + 1) l
  | ⟨.r _, _, _⟩ :: l => lrc cs (i + 1) l
  | ⟨.c, p, _⟩ :: l => cs.all p.contains && lrc (i :: cs) (i + 1) l
  | _ => false
theorem lrc_nil (cs : List Nat) (i : Nat) : lrc cs i [] = true := rfl
theorem lrc_l (cs : List Nat) (i : Nat) (p : List Nat) (m : Id) (l : List Rec) : lrc cs i (⟨.l, p, m⟩ :: l) = lrc cs (i + 1) l := rfl
theorem lrc_r (cs : List Nat) (i : Nat) (j : Id) (p : List Nat) (m : Id) (l : List Rec) : lrc cs i (⟨.r j, p, m⟩ :: l) = lrc cs (i + 1) l := rfl
theorem lrc_c (cs : List Nat) (i : Nat) (p : List Nat) (m : Id) (l : List Rec) : lrc cs i (⟨.c, p, m⟩ :: l) = (cs.all p.contains && lrc (i :: cs) (i + 1) l) := rfl
theorem lrc_sub : ∀ {cs cs' : List Nat} {i : Nat} {l : List Rec}, (∀ x ∈ cs', x ∈ cs) → lrc cs i l = true → lrc cs' i l = true
  | _, _, _, [], _, _ => rfl
  | cs, cs', i, ⟨.l, _, _⟩ :: l, hs, h => lrc_sub (cs := cs) (i := i + 1) hs h
  | cs, cs', i, ⟨.r _, _, _⟩ :: l, hs, h => lrc_sub (cs := cs) (i := i + 1) hs h
  | cs, cs', i, ⟨.c, p, _⟩ :: l, hs, h => by
    rw [lrc_c, Bool.and_eq_true] at h ⊢
    refine ⟨List.all_eq_true.2 fun x hx => List.all_eq_true.1 h.1 x (hs x hx), lrc_sub (cs := i :: cs) (fun x hx => ?_) h.2⟩
    rcases List.mem_cons.1 hx with rfl | hx
    · exact List.mem_cons_self
    · exact List.mem_cons_of_mem _ (hs x hx)
  | _, _, _, ⟨.n _, _, _⟩ :: _, _, h => by cases h
  | _, _, _, ⟨.x, _, _⟩ :: _, _, h => by cases h
theorem apart1_lrc {k : Nat} {r : Rec} (hr : r.c = .l ∨ (∃ j, r.c = .r j) ∨ r.c = .c) : ∀ (l : List Rec) (i : Nat) (cs : List Nat), (r.c = .c → k ∈ cs) → lrc cs i l = true → apart1 k r l = true
  | [], _, _, _, _ => rfl
  | ⟨.l, p, m⟩ :: l, i, cs, hk, h => by
    have h2 := apart1_lrc hr l (i + 1) cs hk h
    unfold apart1
    rw [h2]
    rcases hr with e | ⟨j, e⟩ | e <;> simp [needs, e]
  | ⟨.r _, p, m⟩ :: l, i, cs, hk, h => by
    have h2 := apart1_lrc hr l (i + 1) cs hk h
    unfold apart1
    rw [h2]
    rcases hr with e | ⟨j, e⟩ | e <;> simp [needs, e]
  | ⟨.c, p, m⟩ :: l, i, cs, hk, h => by
    rw [lrc_c, Bool.and_eq_true] at h
    have h2 := apart1_lrc hr l (i + 1) (i :: cs) (fun e => List.mem_cons_of_mem _ (hk e)) h.2
    unfold apart1
    rw [h2]
    rcases hr with e | ⟨j, e⟩ | e
    · simp [needs, e]
    · simp [needs, e]
    · have := List.all_eq_true.1 h.1 k (hk e)
      simp only [List.contains_iff_mem] at this
      simp [needs, e, this]
  | ⟨.n _, _, _⟩ :: _, _, _, _, h => by cases h
  | ⟨.x, _, _⟩ :: _, _, _, _, h => by cases h
theorem apart_lrc' : ∀ (l : List Rec) (cs : List Nat) (i : Nat), lrc cs i l = true → apart i l = true
  | [], _, _, _ => rfl
  | ⟨.l, p, m⟩ :: l, cs, i, h => by
    have h1 := apart1_lrc (k := i) (r := ⟨.l, p, m⟩) (.inl rfl) l (i + 1) cs (fun e => by cases e) h
    have h2 := apart_lrc' l cs (i + 1) h
    unfold apart
    rw [h1, h2]
    rfl
  | ⟨.r j, p, m⟩ :: l, cs, i, h => by
    have h1 := apart1_lrc (k := i) (r := ⟨.r j, p, m⟩) (.inr (.inl ⟨j, rfl⟩)) l (i + 1) cs (fun e => by cases e) h
    have h2 := apart_lrc' l cs (i + 1) h
    unfold apart
    rw [h1, h2]
    rfl
  | ⟨.c, p, m⟩ :: l, cs, i, h => by
    rw [lrc_c, Bool.and_eq_true] at h
    have h1 := apart1_lrc (k := i) (r := ⟨.c, p, m⟩) (.inr (.inr rfl)) l (i + 1) (i :: cs) (fun _ => List.mem_cons_self) h.2
    have h2 := apart_lrc' l (i :: cs) (i + 1) h.2
    unfold apart
    rw [h1, h2]
    rfl
  | ⟨.n _, _, _⟩ :: _, _, _, h => by cases h
  | ⟨.x, _, _⟩ :: _, _, _, h => by cases h
theorem apart_lrc {l : List Rec} (h : lrc [] 0 l = true) : apart 0 l = true := apart_lrc' l [] 0 h
/-- A copy of 'apart' that 'simp' leaves alone. -/
def apx (l : List Rec) : Bool := apart 0 l
theorem dg_end {ft : FT} {k : Nat} {l : List Rec} {drop : List Nat} {ks : List Kt} {Q : Fin} {s : St} : dg ft [] k l drop ks Q s = da ft (lrc [] 0 l || apx l) k drop ks Q s := by
  have e : (lrc [] 0 l || apx l) = apart 0 l := by
    unfold apx
    cases h : lrc [] 0 l with
    | true => rw [apart_lrc h]; rfl
    | false => rfl
  rw [e, dg_nil]
/-- The machine's equations, all in one. -/
def mach :=
  And.intro @cgs_some
  (And.intro @dcgs_some
  (And.intro @res_nil
  (And.intro @res_seq_n
  (And.intro @res_seq_r
  (And.intro @res_seq_e
  (And.intro @res_blk_n
  (And.intro @res_blk_r
  (And.intro @res_blk_e
  (And.intro @run_skip
  (And.intro @run_ret
  (And.intro @run_exit
  (And.intro @run_seq
  (And.intro @run_block
  (And.intro @run_loop
  (And.intro @run_reg
  (And.intro @run_dreg
  (And.intro @run_cond
  (And.intro @cg2_true
  (And.intro @cg2_false
  (And.intro @rg_nil
  (And.intro @rg_cons
  (And.intro @rw1_true
  (And.intro @rw1_false
  (And.intro @ri_call
  (And.intro @ri_callv
  (And.intro @ri_mov
  (And.intro @di_mov
  (And.intro @ri_anil
  (And.intro @di_anil
  (And.intro @ri_pick
  (And.intro @di_pick
  (And.intro @ri_new
  (And.intro @di_new
  (And.intro @ri_box
  (And.intro @di_box
  (And.intro @ri_agg
  (And.intro @di_agg
  (And.intro @ri_mkl
  (And.intro @di_mkl
  (And.intro @ri_load
  (And.intro @di_load
  (And.intro @ri_store
  (And.intro @di_store
  (And.intro @ri_nilck
  (And.intro @di_nilck
  (And.intro @ri_bin
  (And.intro @di_bin
  (And.intro @ri_bins
  (And.intro @di_bins
  (And.intro @ri_un
  (And.intro @di_un
  (And.intro @ri_conv
  (And.intro @di_conv
  (And.intro @ri_faddr
  (And.intro @di_faddr
  (And.intro @ri_fld
  (And.intro @di_fld
  (And.intro @ri_iaddr
  (And.intro @di_iaddr
  (And.intro @ri_sidx
  (And.intro @di_sidx
  (And.intro @ri_slc
  (And.intro @di_slc
  (And.intro @ri_zap
  (And.intro @di_zap
  (And.intro @ri_isnil
  (And.intro @di_isnil
  (And.intro @ri_sslc
  (And.intro @di_sslc
  (And.intro @ri_ext
  (And.intro @di_ext
  (And.intro @ri_mks
  (And.intro @di_mks
  (And.intro @ri_mkf
  (And.intro @di_mkf
  (And.intro @ri_mkm
  (And.intro @di_mkm
  (And.intro @ri_look
  (And.intro @di_look
  (And.intro @ri_mset
  (And.intro @di_mset
  (And.intro @ri_len
  (And.intro @di_len
  (And.intro @ri_app
  (And.intro @di_app
  (And.intro @ri_mm
  (And.intro @di_mm
  (And.intro @rs_some
  (And.intro @rc_some
  (And.intro @dg_end
  (And.intro @da_true
  (And.intro @dg_cons
  (And.intro @dw1_true
  (And.intro @dw1_false
  (And.intro @di_call
  (And.intro @ds_some
  (And.intro @dn_some
  (@dc_some))))))))))))))))))))))))))))))))))))))))))))))))))))))))))))))))))))))))))))))))))))))))))))))))))

/-- Plain equations, all in one. -/
def dat :=
  And.intro @edrop_nil
  (And.intro @edrop_cons
  (And.intro @ekeep_nil
  (And.intro @ekeep_cons
  (And.intro @List.contains_cons
  (And.intro @List.contains_nil
  (And.intro @Bool.or_false
  (And.intro @Bool.false_or
  (And.intro @Bool.or_true
  (And.intro @Bool.true_or
  (And.intro @if_true
  (And.intro @if_false
  (And.intro @List.map_cons
  (And.intro @List.map_nil
  (And.intro @Bool.false_eq_true
  (And.intro @Bool.not_false
  (And.intro @Bool.not_true
  (And.intro @Bool.and_self
  (And.intro @Bool.and_true
  (And.intro @Bool.true_and
  (And.intro @List.cons_append
  (And.intro @List.nil_append
  (And.intro @List.append_nil
  (And.intro @Option.map_some
  (And.intro @Option.map_none
  (And.intro @beq_true
  (And.intro @beq_false
  (And.intro @beq_self_eq_true
  (And.intro @List.length_cons
  (And.intro @List.length_nil
  (And.intro @List.getElem?_cons_zero
  (And.intro @List.getElem?_cons_succ
  (And.intro @List.drop_zero
  (And.intro @List.drop_succ_cons
  (And.intro @List.take_zero
  (And.intro @List.take_succ_cons
  (And.intro @fz_bool
  (And.intro @fz_int
  (And.intro @fz_list
  (And.intro @fz_nils
  (@fz_str))))))))))))))))))))))))))))))))))))))))

/-- A table with one more contract. -/
def upd (ft : FT) (f : Nat) (spec : Id → List AV → Heap → Option (AV × Heap)) : FT := fun n => if n = f then some (.ora spec) else ft n
theorem upd_ok {P : Program} {ft : FT} (h : FTOK P ft) {f : Nat} (hf : f < 100000) {spec : Id → List AV → Heap → Option (AV × Heap)} (hs : OraOK P f spec) : FTOK P (upd ft f spec) := by
  intro n x hx
  unfold upd at hx
  split at hx
  · rename_i e
    subst e
    injection hx with hx
    subst hx
    rw [Nat.mod_eq_of_lt hf]
    exact hs
  · exact h n x hx
end Go.Proofs.Abs
