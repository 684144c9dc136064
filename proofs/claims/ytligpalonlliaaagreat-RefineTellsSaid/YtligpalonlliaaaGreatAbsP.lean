/- A part of a proof: the text that states the row tells what is proved. No condition is laid on anything. -/
import Derived.Test.YtligpalonlliaaaGreatAbsF0
set_option linter.all false
set_option linter.constructorNameAsVariable false
set_option linter.defProp false
set_option linter.unusedVariables false
set_option linter.unusedSimpArgs false
namespace Go.Proofs.Abs
open Go
/-! ### Short words for codes -/
def xm (d s : Nat) : AIn := ⟨some d, none, .mov (.t s), []⟩
def xo (d : Nat) (i : AIns) : AIn := ⟨some d, none, i, []⟩
def xf (d g : Nat) (i : AIns) : AIn := ⟨some d, some (g, false), i, []⟩
def xt (d g : Nat) (i : AIns) : AIn := ⟨some d, some (g, true), i, []⟩
def xn (i : AIns) : AIn := ⟨none, none, i, []⟩
def ym (d s : Nat) (p : List Nat) : AIn := ⟨some d, none, .mov (.t s), p⟩
def yo (d : Nat) (i : AIns) (p : List Nat) : AIn := ⟨some d, none, i, p⟩
def yf (d g : Nat) (i : AIns) (p : List Nat) : AIn := ⟨some d, some (g, false), i, p⟩
def yt (d g : Nat) (i : AIns) (p : List Nat) : AIn := ⟨some d, some (g, true), i, p⟩
def ki (n : Int) : AX := .k (.int .i64 n)
def kt : AX := .k (.bool true)
def kf : AX := .k (.bool false)
def rng (s n : Nat) : List Nat := List.range' s n
theorem rng_contains (s n i : Nat) : (rng s n).contains i = decide (s ≤ i ∧ i + 1 ≤ s + n) := by
  unfold rng
  rw [Bool.eq_iff_iff, List.contains_iff_mem, List.mem_range'_1, decide_eq_true_eq]
  omega
/-! ### Equations, all in one -/
def D1 := (And.intro (And.intro (And.intro (And.intro (And.intro (And.intro (And.intro @List.contains_cons.{0}
 @List.contains_nil.{0})
 (And.intro @if_true.{0}
 @if_false.{0}))
 (And.intro (And.intro @List.all_nil.{0}
 @List.all_cons.{0})
 (And.intro @List.cons_append.{0}
 @List.nil_append.{0})))
 (And.intro (And.intro (And.intro @beq_self_eq_true.{0}
 @List.getElem?_cons_zero.{0})
 (And.intro @List.getElem?_cons_succ.{0}
 @List.length_cons.{0}))
 (And.intro (And.intro @List.length_nil.{0}
 @List.drop_zero.{0})
 (And.intro @List.drop_succ_cons.{0}
 @List.drop_nil.{0}))))
 (And.intro (And.intro (And.intro (And.intro @List.take_zero.{0}
 @List.take_succ_cons.{0})
 (And.intro @List.take_nil.{0}
 @List.cons.injEq.{0}))
 (And.intro (And.intro @List.append_nil.{0}
 @bne_self_eq_false.{0})
 (And.intro @List.replicate_succ.{0}
 @List.replicate_zero.{0})))
 (And.intro (And.intro (And.intro @List.set_cons_zero.{0}
 @List.set_cons_succ.{0})
 (And.intro @List.isEmpty_nil.{0}
 @List.isEmpty_cons.{0}))
 (And.intro (And.intro @List.map_cons.{0, 0}
 @List.map_nil.{0, 0})
 (And.intro @Option.map_some.{0, 0}
 @List.length_map.{0, 0})))))
 (And.intro (And.intro (And.intro (And.intro (And.intro @edrop_nil
 @edrop_cons)
 (And.intro @ekeep_nil
 @ekeep_cons))
 (And.intro (And.intro @Bool.or_false
 @Bool.false_or)
 (And.intro @Bool.or_true
 @Bool.true_or)))
 (And.intro (And.intro (And.intro @Bool.false_eq_true
 @lrc_nil)
 (And.intro @lrc_l
 @lrc_r))
 (And.intro (And.intro @lrc_c
 @Bool.not_false)
 (And.intro @Bool.not_true
 @Bool.and_self))))
 (And.intro (And.intro (And.intro (And.intro @Bool.and_true
 @Bool.true_and)
 (And.intro @beq_true
 @beq_false))
 (And.intro (And.intro @fz_bool
 @fz_int)
 (And.intro @fz_list
 @fz_nils)))
 (And.intro (And.intro (And.intro @fz_str
 @and_true)
 (And.intro @true_and
 @and_false))
 (And.intro (And.intro @false_and
 @and_self)
 (And.intro @astr_eql
 @astr_neq))))))
 (And.intro (And.intro (And.intro (And.intro (And.intro (And.intro @bytes_empty
 @fz_tuple2)
 (And.intro @fz_agg2
 @fz_aggb))
 (And.intro (And.intro @fz_nd
 @fz_nd5)
 (And.intro @beqH_self
 @eNats_len)))
 (And.intro (And.intro (And.intro @eNats_snoc
 @rng_contains)
 (And.intro @decide_true
 @decide_false))
 (And.intro (And.intro @xm.eq_1
 @xo.eq_1)
 (And.intro @xf.eq_1
 @xt.eq_1))))
 (And.intro (And.intro (And.intro (And.intro @xn.eq_1
 @ym.eq_1)
 (And.intro @yo.eq_1
 @yf.eq_1))
 (And.intro (And.intro @yt.eq_1
 @ki.eq_1)
 (And.intro @kt.eq_1
 @kf.eq_1)))
 (And.intro (And.intro (And.intro @wanted.eq_1
 @wanted.eq_2)
 (And.intro @putd.eq_1
 @putd.eq_2))
 (And.intro (And.intro @eset.eq_1
 @eset.eq_2)
 (And.intro @eget.eq_1
 @eget.eq_2)))))
 (And.intro (And.intro (And.intro (And.intro (And.intro @AX.ev.eq_1
 @AX.ev.eq_2)
 (And.intro @params.eq_1
 @params.eq_2))
 (And.intro (And.intro @slots.eq_1
 @agetl.eq_1)
 (And.intro @foldMin.eq_1
 @foldMin.eq_2)))
 (And.intro (And.intro (And.intro @foldMin.eq_3
 @argsOf.eq_1)
 (And.intro @argsOf.eq_2
 @St.add.eq_1))
 (And.intro (And.intro @hadd.eq_1
 @hadd.eq_2)
 (And.intro @hget.eq_1
 @hget.eq_2))))
 (And.intro (And.intro (And.intro (And.intro @fget.eq_1
 @fget.eq_2)
 (And.intro @hset.eq_1
 @hset.eq_2))
 (And.intro (And.intro @fset.eq_1
 @fset.eq_2)
 (And.intro @partsOfA.eq_1
 @partsOfA.eq_2)))
 (And.intro (And.intro (And.intro @afill.eq_1
 @afill.eq_2)
 (And.intro @partsOf.eq_1
 @partsOf.eq_2))
 (And.intro (And.intro @setRows.eq_1
 @setRows.eq_2)
 (And.intro @hpop.eq_1
 @hpop.eq_2)))))))
def D0 := And.intro mach D1
def F1 := And.intro ((And.intro (And.intro (And.intro @ob_some
 @ne_eq.{1})
 (And.intro @not_false_eq_true
 (And.intro @not_true_eq_false
 @false_or)))
 (And.intro (And.intro @or_false
 @resOf.eq_1)
 (And.intro @resOf.eq_2
 (And.intro @resOf.eq_3
 @endr.eq_1))))) D1

/-! ### Contracts -/
section
variable {ft : FT} {ks : List Kt} {Q : Fin} {s : St} {drop : List Nat} {k : Nat} {d : Option Nat} {r : List AIn} {l : List Rec} {i : AIn}
theorem use_all {ft : FT} {f : Nat} {spec : Id → List AV → Heap → Option (AV × Heap)} (hf : ft f = some (.ora spec)) :
    (∀ q a H d r k drop ks Q s, cg ft f q a H d r k drop ks Q s = cgs ft (spec q a H) d r k drop ks Q s) ∧ (∀ q a H i r k l drop ks Q s, dcg ft f q a H i r k l drop ks Q s = dcgs ft (spec q a H) i r k l drop ks Q s) :=
  ⟨fun _ _ _ _ _ _ _ _ _ _ => cg_spec hf, fun _ _ _ _ _ _ _ _ _ _ _ => dcg_spec hf⟩
end
theorem oraF_eqD {α : Type} {dom : α → Prop} {enc : α → List AV} {out : α → AV} (inj : ∀ a b, dom a → dom b → enc a = enc b → a = b) {a : α} (ha : dom a) (q : Id) (H : Heap) : oraF dom enc out q (enc a) H = some (out a, H) := by
  have h : ∃ b, dom b ∧ enc b = enc a := ⟨a, ha, rfl⟩
  unfold oraF
  rw [dif_pos h]
  rw [inj _ _ (Classical.choose_spec h).1 ha (Classical.choose_spec h).2]
theorem oraO_eqD {α : Type} {dom : α → Prop} {enc : α → List AV} {elem sz : Nat} {out : α → List (List AV)} (inj : ∀ a b, dom a → dom b → enc a = enc b → a = b) {a : α} (ha : dom a) (q : Id) (H : Heap) :
    oraO dom enc elem sz out q (enc a) H = some (.own (q ++ [0]) (out a).length, hadd H (q ++ [0]) (.row true true elem sz (out a))) := by
  have h : ∃ b, dom b ∧ enc b = enc a := ⟨a, ha, rfl⟩
  unfold oraO
  rw [dif_pos h]
  rw [inj _ _ (Classical.choose_spec h).1 ha (Classical.choose_spec h).2]
/-- A contract: of which arguments it speaks, how they look, what is told. -/
structure Kon (α : Type) where
  dom : α → Prop
  enc : α → List AV
  out : α → AV
structure KonO (α : Type) where
  dom : α → Prop
  enc : α → List AV
  elem : Nat
  sz : Nat
  out : α → List (List AV)
section
variable {α : Type} (K : Kon α)
noncomputable def Kon.ora : Id → List AV → Heap → Option (AV × Heap) := oraF K.dom K.enc K.out
theorem Kon.eq (inj : ∀ a b, K.enc a = K.enc b → a = b) (a : α) (ha : K.dom a) (q : Id) (H : Heap) : K.ora q (K.enc a) H = some (K.out a, H) := oraF_eq inj ha q H
theorem Kon.eqD (inj : ∀ a b, K.dom a → K.dom b → K.enc a = K.enc b → a = b) (a : α) (ha : K.dom a) (q : Id) (H : Heap) : K.ora q (K.enc a) H = some (K.out a, H) := oraF_eqD inj ha q H
theorem Kon.ok {P : Program} {ft : FT} (hmo : P.follows .mixedOrders = true) (hft : FTOK P ft) {f : Nat} (hin : ∀ a, K.dom a → ∀ x ∈ K.enc a, Pure x) (hout : ∀ a, K.dom a → Pure (K.out a))
    (hrun : ∀ a, K.dom a → cwp ft f [] (K.enc a) [] fun r H => r = K.out a ∧ H = []) : OraOK P (f % 100000) K.ora := lift2 hmo hft hin hout fun a h => cwp_run (hrun a h)
variable (L : KonO α)
noncomputable def KonO.ora : Id → List AV → Heap → Option (AV × Heap) := oraO L.dom L.enc L.elem L.sz L.out
theorem KonO.eq (inj : ∀ a b, L.enc a = L.enc b → a = b) (a : α) (ha : L.dom a) (q : Id) (H : Heap) : L.ora q (L.enc a) H = some (.own (q ++ [0]) (L.out a).length, hadd H (q ++ [0]) (.row true true L.elem L.sz (L.out a))) := oraO_eq inj ha q H
theorem KonO.eqD (inj : ∀ a b, L.dom a → L.dom b → L.enc a = L.enc b → a = b) (a : α) (ha : L.dom a) (q : Id) (H : Heap) : L.ora q (L.enc a) H = some (.own (q ++ [0]) (L.out a).length, hadd H (q ++ [0]) (.row true true L.elem L.sz (L.out a))) := oraO_eqD inj ha q H
theorem KonO.ok {P : Program} {ft : FT} (hmo : P.follows .mixedOrders = true) (hft : FTOK P ft) {f : Nat} (hin : ∀ a, L.dom a → ∀ x ∈ L.enc a, Pure x) (hout : ∀ a, L.dom a → ∀ r ∈ L.out a, ∀ x ∈ r, Pure x)
    (hrun : ∀ a, L.dom a → cwp ft f [] (L.enc a) [] fun v H => ∃ id, v = .own id (L.out a).length ∧ H = [[(id, .row true true L.elem L.sz (L.out a))]]) : OraOK P (f % 100000) L.ora := liftO hmo hft hin (fun a h => pure_flat (hout a h)) fun a h => cwp_runO (hrun a h)
end
/-! Contracts of functions that call themselves. -/
theorem ora_rec {P : Program} {f : Nat} {α : Type} {K : Kon α} (m : α → Nat) (inj : ∀ a b, K.dom a → K.dom b → K.enc a = K.enc b → a = b)
    (step : ∀ n, OraOK P f (Kon.ora ⟨fun a => K.dom a ∧ m a < n, K.enc, K.out⟩) → OraOK P f (Kon.ora ⟨fun a => K.dom a ∧ m a < n + 1, K.enc, K.out⟩)) : OraOK P f K.ora := by
  have all : ∀ n, OraOK P f (Kon.ora ⟨fun a => K.dom a ∧ m a < n, K.enc, K.out⟩) := by
    intro n
    induction n with
    | zero =>
      intro q args H r H' h
      simp only [Kon.ora, oraF] at h
      rw [dif_neg (by rintro ⟨a, ⟨_, h2⟩, _⟩; omega)] at h
      cases h
    | succ n ih => exact step n ih
  intro q args H r H' e
  have e0 := e
  simp only [Kon.ora, oraF] at e
  split at e
  · rename_i hex
    obtain ⟨a, ha, rfl⟩ := hex
    rw [K.eqD inj a ha] at e0
    refine all (m a + 1) q (K.enc a) H r H' ?_
    rw [← e0]
    exact Kon.eqD ⟨fun a => K.dom a ∧ m a < _, K.enc, K.out⟩ (fun a b h1 h2 => inj a b h1.1 h2.1) a ⟨ha, Nat.lt_succ_self _⟩ q H
  · cases e
theorem oraO_rec {P : Program} {f : Nat} {α : Type} {K : KonO α} (m : α → Nat) (inj : ∀ a b, K.dom a → K.dom b → K.enc a = K.enc b → a = b)
    (step : ∀ n, OraOK P f (KonO.ora ⟨fun a => K.dom a ∧ m a < n, K.enc, K.elem, K.sz, K.out⟩) → OraOK P f (KonO.ora ⟨fun a => K.dom a ∧ m a < n + 1, K.enc, K.elem, K.sz, K.out⟩)) : OraOK P f K.ora := by
  have all : ∀ n, OraOK P f (KonO.ora ⟨fun a => K.dom a ∧ m a < n, K.enc, K.elem, K.sz, K.out⟩) := by
    intro n
    induction n with
    | zero =>
      intro q args H r H' h
      simp only [KonO.ora, oraO] at h
      rw [dif_neg (by rintro ⟨a, ⟨_, h2⟩, _⟩; omega)] at h
      cases h
    | succ n ih => exact step n ih
  intro q args H r H' e
  have e0 := e
  simp only [KonO.ora, oraO] at e
  split at e
  · rename_i hex
    obtain ⟨a, ha, rfl⟩ := hex
    rw [K.eqD inj a ha] at e0
    refine all (m a + 1) q (K.enc a) H r H' ?_
    rw [← e0]
    exact KonO.eqD ⟨fun a => K.dom a ∧ m a < _, K.enc, K.elem, K.sz, K.out⟩ (fun a b h1 h2 => inj a b h1.1 h2.1) a ⟨ha, Nat.lt_succ_self _⟩ q H
  · cases e
/-- A table with one more code. -/
def updC (ft : FT) (f : Nat) (x : AFn) : FT := fun n => if n = f then some (.code x) else ft n
theorem updC_ok {P : Go.Program} {ft : FT} (h : FTOK P ft) {f : Nat} {x : AFn} (hx : fnOK P (f % 100000) x = true) : FTOK P (updC ft f x) := by
  intro n y hy
  unfold updC at hy
  split at hy
  · rename_i e
    subst e
    injection hy with hy
    subst hy
    exact hx
  · exact h n y hy
/-- What is written never again. -/
def PU := And.intro pure_undef (And.intro pure_bool (And.intro pure_int (And.intro pure_str (And.intro pure_nils (And.intro pure_agg (And.intro pure_tuple (And.intro pure_setL (And.intro pure_treeL (And.intro pure_rowL (And.intro pureL_eNd (And.intro pure_nats (And.intro pure_func0 (And.intro pureL_setL pureL_treeL)))))))))))))
end Go.Proofs.Abs
