/- A part of a proof: the text that states the row tells what is proved. No condition is laid on anything. -/
import Derived.Test.YtgcncpedpjjjeaaAbs24
set_option linter.all false
set_option linter.constructorNameAsVariable false
set_option linter.defProp false
set_option linter.unusedVariables false
set_option linter.unusedSimpArgs false
namespace Go.Proofs.Abs
open Go Go.RowKit

/-! ### A machine without functions in its states: for 'simp' -/
inductive Kt where
  | seq (b : ACode)
  | blk (id : Nat) (sl : List Nat)
abbrev Fin := AExit → St → Prop
def res (ft : FT) : List Kt → Fin → AExit → St → Prop
  | [], Q, x, s => Q x s
  | .seq b :: ks, Q, x, s => sq x (awp ft b (fun x s => res ft ks Q x s) s) (res ft ks Q x s)
  | .blk id sl :: ks, Q, x, s => bk x id (res ft ks Q .normal { s with env := ekeep s.env sl }) (res ft ks Q x s)
def run (ft : FT) (c : ACode) (ks : List Kt) (Q : Fin) (s : St) : Prop := awp ft c (fun x s => res ft ks Q x s) s

/-- Where a region goes on. -/
structure Rk where
  r : List AIn
  k : Nat
  drop : List Nat
  ks : List Kt
def rg (ft : FT) (is : List AIn) (k : Nat) (drop : List Nat) (ks : List Kt) (Q : Fin) (s : St) : Prop := rwp ft is k s fun s' => res ft ks Q .normal { s' with env := edrop s'.env drop }
def rs (ft : FT) (o : Option (AV × St)) (d : Option Nat) (r : List AIn) (k : Nat) (drop : List Nat) (ks : List Kt) (Q : Fin) : Prop :=
  ob o fun y => rg ft r k drop ks Q { y.2 with env := putd y.2.env d y.1 }
def ri (ft : FT) (i : AIns) (d : Option Nat) (r : List AIn) (k : Nat) (drop : List Nat) (ks : List Kt) (Q : Fin) (s : St) : Prop :=
  iwp ft i s fun v s' => rg ft r k drop ks Q { s' with env := putd s'.env d v }
def rw1 (ft : FT) (b : Option Bool) (i : AIn) (r : List AIn) (k : Nat) (drop : List Nat) (ks : List Kt) (Q : Fin) (s : St) : Prop :=
  ob b fun b => bb b (ri ft i.i i.d r (k + 1) drop ks Q { s with k := k }) (rg ft r (k + 1) drop ks Q { s with env := putd s.env i.d (.tuple []) })
def cg (ft : FT) (f : Nat) (q : Id) (l : List AV) (H : Heap) (d : Option Nat) (r : List AIn) (k : Nat) (drop : List Nat) (ks : List Kt) (Q : Fin) (s : St) : Prop :=
  cwp ft f q l H fun v H' => rg ft r k drop ks Q { s with env := putd s.env d v, heap := H', k := s.k + 1 }
def rc (ft : FT) (o : Option (List AV × Heap)) (f : Nat) (pre : List AV) (d : Option Nat) (r : List AIn) (k : Nat) (drop : List Nat) (ks : List Kt) (Q : Fin) (s : St) : Prop :=
  ob o fun x => cg ft f (s.p ++ [s.k]) (x.1 ++ pre) x.2 d r k drop ks Q s
def rf (ft : FT) (v : AV) (args : List (Bool × AX)) (d : Option Nat) (r : List AIn) (k : Nat) (drop : List Nat) (ks : List Kt) (Q : Fin) (s : St) : Prop :=
  fb v fun f caps => rc ft (argsOf s.env s.heap args) f caps d r k drop ks Q s
/-! A region that draws its order. -/
def dg (ft : FT) (is : List AIn) (k : Nat) (l : List Rec) (drop : List Nat) (ks : List Kt) (Q : Fin) (s : St) : Prop := dwp ft is k s l fun s' => res ft ks Q .normal { s' with env := edrop s'.env drop }
def da (ft : FT) (b : Bool) (k : Nat) (drop : List Nat) (ks : List Kt) (Q : Fin) (s : St) : Prop := bb b (res ft ks Q .normal { s with k := k, env := edrop s.env drop }) False
def dn (ft : FT) (o : Option (Cl × AV × St)) (i : AIn) (r : List AIn) (k : Nat) (l : List Rec) (drop : List Nat) (ks : List Kt) (Q : Fin) (s : St) : Prop :=
  ob o fun y => dg ft r (k + 1) (l ++ [⟨y.1, i.pre, s.p ++ [k]⟩]) drop ks Q { y.2.2 with env := putd y.2.2.env i.d y.2.1 }
def ds (ft : FT) (o : Option (AV × St)) (i : AIn) (r : List AIn) (k : Nat) (l : List Rec) (drop : List Nat) (ks : List Kt) (Q : Fin) (s : St) : Prop :=
  ob o fun y => dn ft (dnext (clsOf i.i s.env) y.1 s y.2) i r k l drop ks Q s
def di (ft : FT) (a : AIns) (i : AIn) (r : List AIn) (k : Nat) (l : List Rec) (drop : List Nat) (ks : List Kt) (Q : Fin) (s : St) : Prop :=
  iwp ft a s fun v s' => dn ft (dnext (clsOf i.i s.env) v s s') i r k l drop ks Q s
def dw1 (ft : FT) (b : Option Bool) (i : AIn) (r : List AIn) (k : Nat) (l : List Rec) (drop : List Nat) (ks : List Kt) (Q : Fin) (s : St) : Prop :=
  ob b fun b => bb b (di ft i.i i r k l drop ks Q { s with k := k }) (dg ft r (k + 1) (l ++ [⟨.l, i.pre, s.p ++ [k]⟩]) drop ks Q { s with env := putd s.env i.d (.tuple []), k := k })
def dcg (ft : FT) (f : Nat) (q : Id) (a : List AV) (H : Heap) (i : AIn) (r : List AIn) (k : Nat) (l : List Rec) (drop : List Nat) (ks : List Kt) (Q : Fin) (s : St) : Prop :=
  cwp ft f q a H fun v H' => dn ft (dnext (clsOf i.i s.env) v s { s with heap := H', k := s.k + 1 }) i r k l drop ks Q s
def dc (ft : FT) (o : Option (List AV × Heap)) (f : Nat) (pre : List AV) (i : AIn) (r : List AIn) (k : Nat) (l : List Rec) (drop : List Nat) (ks : List Kt) (Q : Fin) (s : St) : Prop :=
  ob o fun x => dcg ft f (s.p ++ [s.k]) (x.1 ++ pre) x.2 i r k l drop ks Q s
def df (ft : FT) (v : AV) (args : List (Bool × AX)) (i : AIn) (r : List AIn) (k : Nat) (l : List Rec) (drop : List Nat) (ks : List Kt) (Q : Fin) (s : St) : Prop :=
  fb v fun f caps => dc ft (argsOf s.env s.heap args) f caps i r k l drop ks Q s
/-- A loop, and a condition. -/
def lg (ft : FT) (mg : Bool) (c : ACode) (ks : List Kt) (Q : Fin) (s : St) : Prop := lwp ft mg c s fun x s => res ft ks Q x s
def cg2 (ft : FT) (v : AV) (a b : ACode) (ks : List Kt) (Q : Fin) (s : St) : Prop := cb v (run ft a ks Q s) (run ft b ks Q s)

section
variable {ft : FT} {ks : List Kt} {Q : Fin} {s : St} {drop : List Nat} {k : Nat} {d : Option Nat} {r : List AIn}
theorem res_nil (x : AExit) : res ft [] Q x s = Q x s := propext Iff.rfl
theorem res_seq_n (b : ACode) : res ft (.seq b :: ks) Q .normal s = run ft b ks Q s := propext Iff.rfl
theorem res_seq_r (b : ACode) : res ft (.seq b :: ks) Q .ret s = res ft ks Q .ret s := propext Iff.rfl
theorem res_seq_e (b : ACode) (i : Nat) : res ft (.seq b :: ks) Q (.exit i) s = res ft ks Q (.exit i) s := propext Iff.rfl
theorem res_blk_n (id : Nat) (sl : List Nat) : res ft (.blk id sl :: ks) Q .normal s = res ft ks Q .normal s := propext Iff.rfl
theorem res_blk_r (id : Nat) (sl : List Nat) : res ft (.blk id sl :: ks) Q .ret s = res ft ks Q .ret s := propext Iff.rfl
theorem res_blk_e (i id : Nat) (sl : List Nat) : res ft (.blk id sl :: ks) Q (.exit i) s = if i = id then res ft ks Q .normal { s with env := ekeep s.env sl } else res ft ks Q (.exit i) s := propext Iff.rfl
theorem run_skip : run ft .skip ks Q s = res ft ks Q .normal s := propext Iff.rfl
theorem run_ret : run ft .ret ks Q s = res ft ks Q .ret s := propext Iff.rfl
theorem run_exit (i : Nat) : run ft (.exit i) ks Q s = res ft ks Q (.exit i) s := propext Iff.rfl
theorem run_seq (a b : ACode) : run ft (.seq a b) ks Q s = run ft a (.seq b :: ks) Q s := propext Iff.rfl
theorem run_block (id : Nat) (c : ACode) : run ft (.block id c) ks Q s = run ft c (.blk id (slots s.env) :: ks) Q s := propext Iff.rfl
theorem run_loop (mg : Bool) (c : ACode) : run ft (.loop mg c) ks Q s = lg ft mg c ks Q s := propext Iff.rfl
theorem run_reg (is : List AIn) : run ft (.reg is drop) ks Q s = rg ft is s.k drop ks Q s := propext Iff.rfl
theorem run_cond (c : AX) (a b : ACode) : run ft (.cond c drop a b) ks Q s = cg2 ft (c.ev s.env) a b ks Q { s with env := edrop s.env drop } := propext Iff.rfl
theorem cg2_true (a b : ACode) : cg2 ft (.bool true) a b ks Q s = run ft a ks Q s := by simp [cg2, cb, bb]
theorem cg2_false (a b : ACode) : cg2 ft (.bool false) a b ks Q s = run ft b ks Q s := by simp [cg2, cb, bb]
theorem rg_nil : rg ft [] k drop ks Q s = res ft ks Q .normal { s with k := k, env := edrop s.env drop } := propext Iff.rfl
theorem rg_cons (i : AIn) : rg ft (i :: r) k drop ks Q s = rw1 ft (wanted s.env i.g) i r k drop ks Q s := propext Iff.rfl
theorem rw1_true (i : AIn) : rw1 ft (some true) i r k drop ks Q s = ri ft i.i i.d r (k + 1) drop ks Q { s with k := k } := by simp [rw1, ob, bb]
theorem rw1_false (i : AIn) : rw1 ft (some false) i r k drop ks Q s = rg ft r (k + 1) drop ks Q { s with env := putd s.env i.d (.tuple []) } := by simp [rw1, ob, bb]
theorem ri_call (f : Nat) (args : List (Bool × AX)) : ri ft (.call f args) d r k drop ks Q s = rc ft (argsOf s.env s.heap args) f [] d r k drop ks Q s := propext Iff.rfl
theorem ri_callv (x : AX) (args : List (Bool × AX)) : ri ft (.callv x args) d r k drop ks Q s = rf ft (x.ev s.env) args d r k drop ks Q s := propext Iff.rfl
theorem ri_ins {i : AIns} (h : isCall i = false) : ri ft i d r k drop ks Q s = rs ft (ains i s) d r k drop ks Q := by
  cases i <;> first | rfl | cases h
theorem rs_some (v : AV) (s' : St) : rs ft (some (v, s')) d r k drop ks Q = rg ft r k drop ks Q { s' with env := putd s'.env d v } := by simp [rs, ob]
theorem rc_some (l : List AV) (H : Heap) (f : Nat) (pre : List AV) : rc ft (some (l, H)) f pre d r k drop ks Q s = cg ft f (s.p ++ [s.k]) (l ++ pre) H d r k drop ks Q s := by simp [rc, ob]
theorem rf_func (f : Nat) (caps : List AV) (args : List (Bool × AX)) (hf : f < 100000) : rf ft (.func f caps) args d r k drop ks Q s = rc ft (argsOf s.env s.heap args) f caps d r k drop ks Q s := by simp [rf, fb, hf]
theorem cg_ora {f : Nat} {spec : Id → List AV → Heap → Option (AV × Heap)} {q : Id} {l : List AV} {H H' : Heap} {v : AV} (hf : ft f = some (.ora spec)) (h : spec q l H = some (v, H')) :
    cg ft f q l H d r k drop ks Q s = rg ft r k drop ks Q { s with env := putd s.env d v, heap := H', k := s.k + 1 } := by
  apply propext
  constructor
  · rintro ⟨v2, H2, ⟨N, hN⟩, hK⟩
    have := hN (N + 1) (by omega)
    simp only [acall, hf, h, Option.some.injEq, Prod.mk.injEq] at this
    obtain ⟨rfl, rfl⟩ := this
    exact hK
  · intro hK
    exact ⟨v, H', .succ (.of fun n => by simp only [acall, hf, h]), hK⟩
/-- A call that is run by its code here. -/
theorem cg_code {f : Nat} {fn : AFn} {q : Id} {l : List AV} {H : Heap} (hf : ft f = some (.code fn)) (hl : l.length = fn.np)
    (h : run ft fn.body [] (fun x s2 => ob (bodyRes fn x s2) fun y => rg ft r k drop ks Q { s with env := putd s.env d y.1, heap := y.2, k := s.k + 1 }) { env := params 0 l, heap := [] :: H, p := q, k := 0 }) : cg ft f q l H d r k drop ks Q s :=
  run_code hf hl h

theorem run_dreg (is : List AIn) : run ft (.dreg is drop) ks Q s = dg ft is s.k [] drop ks Q s := propext Iff.rfl
section
variable {l : List Rec} {i : AIn}
theorem dg_nil : dg ft [] k l drop ks Q s = da ft (apart 0 l) k drop ks Q s := propext Iff.rfl
theorem da_true : da ft true k drop ks Q s = res ft ks Q .normal { s with k := k, env := edrop s.env drop } := by simp [da, bb]
theorem dg_cons : dg ft (i :: r) k l drop ks Q s = dw1 ft (wanted s.env i.g) i r k l drop ks Q s := propext Iff.rfl
theorem dw1_true : dw1 ft (some true) i r k l drop ks Q s = di ft i.i i r k l drop ks Q { s with k := k } := by simp [dw1, ob, bb]
theorem dw1_false : dw1 ft (some false) i r k l drop ks Q s = dg ft r (k + 1) (l ++ [⟨.l, i.pre, s.p ++ [k]⟩]) drop ks Q { s with env := putd s.env i.d (.tuple []), k := k } := by simp [dw1, ob, bb]
theorem di_call (f : Nat) (args : List (Bool × AX)) : di ft (.call f args) i r k l drop ks Q s = dc ft (argsOf s.env s.heap args) f [] i r k l drop ks Q s := propext Iff.rfl
theorem di_callv (x : AX) (args : List (Bool × AX)) : di ft (.callv x args) i r k l drop ks Q s = df ft (x.ev s.env) args i r k l drop ks Q s := propext Iff.rfl
theorem di_ins {a : AIns} (h : isCall a = false) : di ft a i r k l drop ks Q s = ds ft (ains a s) i r k l drop ks Q s := by
  cases a <;> first | rfl | cases h
theorem ds_some (v : AV) (s' : St) : ds ft (some (v, s')) i r k l drop ks Q s = dn ft (dnext (clsOf i.i s.env) v s s') i r k l drop ks Q s := by simp [ds, ob]
theorem dn_some (c : Cl) (v : AV) (s' : St) : dn ft (some (c, v, s')) i r k l drop ks Q s = dg ft r (k + 1) (l ++ [⟨c, i.pre, s.p ++ [k]⟩]) drop ks Q { s' with env := putd s'.env i.d v } := by simp [dn, ob]
theorem dc_some (a : List AV) (H : Heap) (f : Nat) (pre : List AV) : dc ft (some (a, H)) f pre i r k l drop ks Q s = dcg ft f (s.p ++ [s.k]) (a ++ pre) H i r k l drop ks Q s := by simp [dc, ob]
theorem df_func (f : Nat) (caps : List AV) (args : List (Bool × AX)) (hf : f < 100000) : df ft (.func f caps) args i r k l drop ks Q s = dc ft (argsOf s.env s.heap args) f caps i r k l drop ks Q s := by simp [df, fb, hf]
theorem dcg_ora {f : Nat} {spec : Id → List AV → Heap → Option (AV × Heap)} {q : Id} {a : List AV} {H H' : Heap} {v : AV} (hf : ft f = some (.ora spec)) (h : spec q a H = some (v, H')) :
    dcg ft f q a H i r k l drop ks Q s = dn ft (dnext (clsOf i.i s.env) v s { s with heap := H', k := s.k + 1 }) i r k l drop ks Q s := by
  apply propext
  constructor
  · rintro ⟨v2, H2, ⟨N, hN⟩, hK⟩
    have := hN (N + 1) (by omega)
    simp only [acall, hf, h, Option.some.injEq, Prod.mk.injEq] at this
    obtain ⟨rfl, rfl⟩ := this
    exact hK
  · intro hK
    exact ⟨v, H', .succ (.of fun n => by simp only [acall, hf, h]), hK⟩
end
theorem ri_mov (x : AX) : ri ft (.mov x) d r k drop ks Q s = rs ft (ains (.mov x) s) d r k drop ks Q := propext Iff.rfl
theorem di_mov {l : List Rec} {ii : AIn} (x : AX) : di ft (.mov x) ii r k l drop ks Q s = ds ft (ains (.mov x) s) ii r k l drop ks Q s := propext Iff.rfl
theorem ri_anil (a b : Nat) : ri ft (.anil a b) d r k drop ks Q s = rs ft (ains (.anil a b) s) d r k drop ks Q := propext Iff.rfl
theorem di_anil {l : List Rec} {ii : AIn} (a b : Nat) : di ft (.anil a b) ii r k l drop ks Q s = ds ft (ains (.anil a b) s) ii r k l drop ks Q s := propext Iff.rfl
theorem ri_pick (a b c : AX) : ri ft (.pick a b c) d r k drop ks Q s = rs ft (ains (.pick a b c) s) d r k drop ks Q := propext Iff.rfl
theorem di_pick {l : List Rec} {ii : AIn} (a b c : AX) : di ft (.pick a b c) ii r k l drop ks Q s = ds ft (ains (.pick a b c) s) ii r k l drop ks Q s := propext Iff.rfl
theorem ri_new (z : List AV) : ri ft (.new z) d r k drop ks Q s = rs ft (ains (.new z) s) d r k drop ks Q := propext Iff.rfl
theorem di_new {l : List Rec} {ii : AIn} (z : List AV) : di ft (.new z) ii r k l drop ks Q s = ds ft (ains (.new z) s) ii r k l drop ks Q s := propext Iff.rfl
theorem ri_box (x : AX) : ri ft (.box x) d r k drop ks Q s = rs ft (ains (.box x) s) d r k drop ks Q := propext Iff.rfl
theorem di_box {l : List Rec} {ii : AIn} (x : AX) : di ft (.box x) ii r k l drop ks Q s = ds ft (ains (.box x) s) ii r k l drop ks Q s := propext Iff.rfl
theorem ri_agg (z : List AV) (p : List (Nat × Nat × AX)) : ri ft (.agg z p) d r k drop ks Q s = rs ft (ains (.agg z p) s) d r k drop ks Q := propext Iff.rfl
theorem di_agg {l : List Rec} {ii : AIn} (z : List AV) (p : List (Nat × Nat × AX)) : di ft (.agg z p) ii r k l drop ks Q s = ds ft (ains (.agg z p) s) ii r k l drop ks Q s := propext Iff.rfl
theorem ri_mkl (a b : Nat) (z : List AV) (n : Nat) (p : List (Nat × AX)) (w : Bool) : ri ft (.mkl a b z n p w) d r k drop ks Q s = rs ft (ains (.mkl a b z n p w) s) d r k drop ks Q := propext Iff.rfl
theorem di_mkl {l : List Rec} {ii : AIn} (a b : Nat) (z : List AV) (n : Nat) (p : List (Nat × AX)) (w : Bool) : di ft (.mkl a b z n p w) ii r k l drop ks Q s = ds ft (ains (.mkl a b z n p w) s) ii r k l drop ks Q s := propext Iff.rfl
theorem ri_load (g : Bool) (m : Nat) (x : AX) : ri ft (.load g m x) d r k drop ks Q s = rs ft (ains (.load g m x) s) d r k drop ks Q := propext Iff.rfl
theorem di_load {l : List Rec} {ii : AIn} (g : Bool) (m : Nat) (x : AX) : di ft (.load g m x) ii r k l drop ks Q s = ds ft (ains (.load g m x) s) ii r k l drop ks Q s := propext Iff.rfl
theorem ri_store (w : Bool) (m : Nat) (x y : AX) : ri ft (.store w m x y) d r k drop ks Q s = rs ft (ains (.store w m x y) s) d r k drop ks Q := propext Iff.rfl
theorem di_store {l : List Rec} {ii : AIn} (w : Bool) (m : Nat) (x y : AX) : di ft (.store w m x y) ii r k l drop ks Q s = ds ft (ains (.store w m x y) s) ii r k l drop ks Q s := propext Iff.rfl
theorem ri_nilck (x : AX) : ri ft (.nilck x) d r k drop ks Q s = rs ft (ains (.nilck x) s) d r k drop ks Q := propext Iff.rfl
theorem di_nilck {l : List Rec} {ii : AIn} (x : AX) : di ft (.nilck x) ii r k l drop ks Q s = ds ft (ains (.nilck x) s) ii r k l drop ks Q s := propext Iff.rfl
theorem ri_bin (o : BinOp) (t : Nat) (x y : AX) : ri ft (.bin o t x y) d r k drop ks Q s = rs ft (ains (.bin o t x y) s) d r k drop ks Q := propext Iff.rfl
theorem di_bin {l : List Rec} {ii : AIn} (o : BinOp) (t : Nat) (x y : AX) : di ft (.bin o t x y) ii r k l drop ks Q s = ds ft (ains (.bin o t x y) s) ii r k l drop ks Q s := propext Iff.rfl
theorem ri_bins (o : BinOp) (t : List Nat) (x y : AX) : ri ft (.bins o t x y) d r k drop ks Q s = rs ft (ains (.bins o t x y) s) d r k drop ks Q := propext Iff.rfl
theorem di_bins {l : List Rec} {ii : AIn} (o : BinOp) (t : List Nat) (x y : AX) : di ft (.bins o t x y) ii r k l drop ks Q s = ds ft (ains (.bins o t x y) s) ii r k l drop ks Q s := propext Iff.rfl
theorem ri_un (o : UnOp) (x : AX) : ri ft (.un o x) d r k drop ks Q s = rs ft (ains (.un o x) s) d r k drop ks Q := propext Iff.rfl
theorem di_un {l : List Rec} {ii : AIn} (o : UnOp) (x : AX) : di ft (.un o x) ii r k l drop ks Q s = ds ft (ains (.un o x) s) ii r k l drop ks Q s := propext Iff.rfl
theorem ri_conv (o : IntKind) (x : AX) : ri ft (.conv o x) d r k drop ks Q s = rs ft (ains (.conv o x) s) d r k drop ks Q := propext Iff.rfl
theorem di_conv {l : List Rec} {ii : AIn} (o : IntKind) (x : AX) : di ft (.conv o x) ii r k l drop ks Q s = ds ft (ains (.conv o x) s) ii r k l drop ks Q s := propext Iff.rfl
theorem ri_faddr (n : Nat) (x : AX) : ri ft (.faddr n x) d r k drop ks Q s = rs ft (ains (.faddr n x) s) d r k drop ks Q := propext Iff.rfl
theorem di_faddr {l : List Rec} {ii : AIn} (n : Nat) (x : AX) : di ft (.faddr n x) ii r k l drop ks Q s = ds ft (ains (.faddr n x) s) ii r k l drop ks Q s := propext Iff.rfl
theorem ri_fld (g : Bool) (n m : Nat) (x : AX) : ri ft (.fld g n m x) d r k drop ks Q s = rs ft (ains (.fld g n m x) s) d r k drop ks Q := propext Iff.rfl
theorem di_fld {l : List Rec} {ii : AIn} (g : Bool) (n m : Nat) (x : AX) : di ft (.fld g n m x) ii r k l drop ks Q s = ds ft (ains (.fld g n m x) s) ii r k l drop ks Q s := propext Iff.rfl
theorem ri_iaddr (n : Nat) (x y : AX) : ri ft (.iaddr n x y) d r k drop ks Q s = rs ft (ains (.iaddr n x y) s) d r k drop ks Q := propext Iff.rfl
theorem di_iaddr {l : List Rec} {ii : AIn} (n : Nat) (x y : AX) : di ft (.iaddr n x y) ii r k l drop ks Q s = ds ft (ains (.iaddr n x y) s) ii r k l drop ks Q s := propext Iff.rfl
theorem ri_sidx (x y : AX) : ri ft (.sidx x y) d r k drop ks Q s = rs ft (ains (.sidx x y) s) d r k drop ks Q := propext Iff.rfl
theorem di_sidx {l : List Rec} {ii : AIn} (x y : AX) : di ft (.sidx x y) ii r k l drop ks Q s = ds ft (ains (.sidx x y) s) ii r k l drop ks Q s := propext Iff.rfl
theorem ri_slc (n : Nat) (x : AX) (a b c : Option AX) : ri ft (.slc n x a b c) d r k drop ks Q s = rs ft (ains (.slc n x a b c) s) d r k drop ks Q := propext Iff.rfl
theorem di_slc {l : List Rec} {ii : AIn} (n : Nat) (x : AX) (a b c : Option AX) : di ft (.slc n x a b c) ii r k l drop ks Q s = ds ft (ains (.slc n x a b c) s) ii r k l drop ks Q s := propext Iff.rfl
theorem ri_zap (n m : Nat) (x : AX) : ri ft (.zap n m x) d r k drop ks Q s = rs ft (ains (.zap n m x) s) d r k drop ks Q := propext Iff.rfl
theorem di_zap {l : List Rec} {ii : AIn} (n m : Nat) (x : AX) : di ft (.zap n m x) ii r k l drop ks Q s = ds ft (ains (.zap n m x) s) ii r k l drop ks Q s := propext Iff.rfl
theorem ri_isnil (g : Bool) (x : AX) : ri ft (.isnil g x) d r k drop ks Q s = rs ft (ains (.isnil g x) s) d r k drop ks Q := propext Iff.rfl
theorem di_isnil {l : List Rec} {ii : AIn} (g : Bool) (x : AX) : di ft (.isnil g x) ii r k l drop ks Q s = ds ft (ains (.isnil g x) s) ii r k l drop ks Q s := propext Iff.rfl
theorem ri_sslc (x : AX) (a b : Option AX) : ri ft (.sslc x a b) d r k drop ks Q s = rs ft (ains (.sslc x a b) s) d r k drop ks Q := propext Iff.rfl
theorem di_sslc {l : List Rec} {ii : AIn} (x : AX) (a b : Option AX) : di ft (.sslc x a b) ii r k l drop ks Q s = ds ft (ains (.sslc x a b) s) ii r k l drop ks Q s := propext Iff.rfl
theorem ri_ext (x : AX) (n : Nat) : ri ft (.ext x n) d r k drop ks Q s = rs ft (ains (.ext x n) s) d r k drop ks Q := propext Iff.rfl
theorem di_ext {l : List Rec} {ii : AIn} (x : AX) (n : Nat) : di ft (.ext x n) ii r k l drop ks Q s = ds ft (ains (.ext x n) s) ii r k l drop ks Q s := propext Iff.rfl
theorem ri_mks (a b c : Nat) (z : List AV) (x : AX) : ri ft (.mks a b c z x) d r k drop ks Q s = rs ft (ains (.mks a b c z x) s) d r k drop ks Q := propext Iff.rfl
theorem di_mks {l : List Rec} {ii : AIn} (a b c : Nat) (z : List AV) (x : AX) : di ft (.mks a b c z x) ii r k l drop ks Q s = ds ft (ains (.mks a b c z x) s) ii r k l drop ks Q s := propext Iff.rfl
theorem ri_mkf (f : Nat) (c : List AX) : ri ft (.mkf f c) d r k drop ks Q s = rs ft (ains (.mkf f c) s) d r k drop ks Q := propext Iff.rfl
theorem di_mkf {l : List Rec} {ii : AIn} (f : Nat) (c : List AX) : di ft (.mkf f c) ii r k l drop ks Q s = ds ft (ains (.mkf f c) s) ii r k l drop ks Q s := propext Iff.rfl
theorem ri_mkm  : ri ft (.mkm ) d r k drop ks Q s = rs ft (ains (.mkm ) s) d r k drop ks Q := propext Iff.rfl
theorem di_mkm {l : List Rec} {ii : AIn}  : di ft (.mkm ) ii r k l drop ks Q s = ds ft (ains (.mkm ) s) ii r k l drop ks Q s := propext Iff.rfl
theorem ri_look (a : Nat) (b : List Nat) (z : AV) (o : Bool) (x y : AX) : ri ft (.look a b z o x y) d r k drop ks Q s = rs ft (ains (.look a b z o x y) s) d r k drop ks Q := propext Iff.rfl
theorem di_look {l : List Rec} {ii : AIn} (a : Nat) (b : List Nat) (z : AV) (o : Bool) (x y : AX) : di ft (.look a b z o x y) ii r k l drop ks Q s = ds ft (ains (.look a b z o x y) s) ii r k l drop ks Q s := propext Iff.rfl
theorem ri_mset (a : Nat) (b : List Nat) (x y z : AX) : ri ft (.mset a b x y z) d r k drop ks Q s = rs ft (ains (.mset a b x y z) s) d r k drop ks Q := propext Iff.rfl
theorem di_mset {l : List Rec} {ii : AIn} (a : Nat) (b : List Nat) (x y z : AX) : di ft (.mset a b x y z) ii r k l drop ks Q s = ds ft (ains (.mset a b x y z) s) ii r k l drop ks Q s := propext Iff.rfl
theorem ri_len (n : Nat) (x : AX) : ri ft (.len n x) d r k drop ks Q s = rs ft (ains (.len n x) s) d r k drop ks Q := propext Iff.rfl
theorem di_len {l : List Rec} {ii : AIn} (n : Nat) (x : AX) : di ft (.len n x) ii r k l drop ks Q s = ds ft (ains (.len n x) s) ii r k l drop ks Q s := propext Iff.rfl
theorem ri_app (a b c : Nat) (x y : AX) : ri ft (.app a b c x y) d r k drop ks Q s = rs ft (ains (.app a b c x y) s) d r k drop ks Q := propext Iff.rfl
theorem di_app {l : List Rec} {ii : AIn} (a b c : Nat) (x y : AX) : di ft (.app a b c x y) ii r k l drop ks Q s = ds ft (ains (.app a b c x y) s) ii r k l drop ks Q s := propext Iff.rfl
theorem ri_mm (g : Bool) (x : List AX) : ri ft (.mm g x) d r k drop ks Q s = rs ft (ains (.mm g x) s) d r k drop ks Q := propext Iff.rfl
theorem di_mm {l : List Rec} {ii : AIn} (g : Bool) (x : List AX) : di ft (.mm g x) ii r k l drop ks Q s = ds ft (ains (.mm g x) s) ii r k l drop ks Q s := propext Iff.rfl
theorem lg_rule {mg : Bool} {c : ACode} (I : Nat → Env → Heap → Prop) (m : Nat) (h0 : I 0 s.env s.heap)
    (hstep : ∀ j e H, I j e H → run ft c [] (fun x s' => (x = .normal ∧ j < m ∧ I (j + 1) (ekeep s'.env (slots s.env)) (endr mg s'.heap)) ∨ (x ≠ .normal ∧ res ft ks Q x { env := s'.env, heap := hmerge s'.heap, p := s.p, k := s.k + 1 }))
      { env := e, heap := [] :: H, p := s.p ++ [s.k] ++ [j], k := 0 }) : lg ft mg c ks Q s :=
  loop_rule I m h0 hstep
theorem run_fn {f : Nat} {fn : AFn} {q : Id} {args : List AV} {H : Heap} {K : AV → Heap → Prop} (hf : ft f = some (.code fn)) (hl : args.length = fn.np)
    (h : run ft fn.body [] (fun x s => ob (bodyRes fn x s) fun r => K r.1 r.2) { env := params 0 args, heap := [] :: H, p := q, k := 0 }) : cwp ft f q args H K :=
  run_code hf hl h
end
end Go.Proofs.Abs
