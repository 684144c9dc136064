/- A part of a proof: the text that states the row tells what is proved. No condition is laid on anything. -/
import Derived.Test.YtgcncpedpjjjeaaAbs4
set_option linter.all false
set_option linter.constructorNameAsVariable false
set_option linter.defProp false
set_option linter.unusedVariables false
set_option linter.unusedSimpArgs false
namespace Go.Proofs.Abs
open Go

/-! ### What an operation must be for an instruction -/
def partsOK (place : Nat → Option (Nat × Nat)) : List (Nat × Operand) → List (Nat × Nat × AX) → Bool
  | [], [] => true
  | (i, x) :: r, (off, sz, y) :: r' => decide (place i = some (off, sz)) && opdOK x y && partsOK place r r'
  | _, _ => false
def partsOKl : List (Nat × Operand) → List (Nat × AX) → Bool
  | [], [] => true
  | (i, x) :: r, (j, y) :: r' => i == j && opdOK x y && partsOKl r r'
  | _, _ => false
def placesOf (P : Program) (t : Nat) : Option (Nat → Option (Nat × Nat)) :=
  match P.underlying t with
  | some (.array _ e) => match P.info? e with
    | some ie => some fun i => some (i * ie.size, ie.size)
    | none => none
  | some (.struct fields) => match fields.toList.mapM (fun f => (P.info? f.type).map fun i => (f.offset, i.size)) with
    | some places => some fun i => places[i]?
    | none => none
  | _ => none
def kindIs (P : Program) (t : Nat) : Nat → Bool
  | 0 => (match P.underlying t with | some (.int _) => true | _ => false)
  | 1 => (match P.underlying t with | some .bool => true | _ => false)
  | 2 => (match P.underlying t with | some .string => true | _ => false)
  | _ => false
def structCmp (P : Program) : List Field → Nat → List Nat → Bool
  | [], _, [] => true
  | f :: r, n, k :: ks => f.name != "_" && f.offset == n && kindIs P f.type k && structCmp P r (n + 1) ks
  | _, _, _ => false

/-- A map's key type. -/
def keyTy (P : Program) (k kd : Nat) (ks : List Nat) : Bool :=
  match kd with
  | 3 => (match P.underlying k with
    | some (.struct fs) => !P.stoodInHeld k && structCmp P fs.toList 0 ks
    | some (.array n e) => sizeIs P e 1 && ks.length == n && ks.all (kindIs P e)
    | _ => false)
  | kd => kindIs P k kd
def zero1 (P : Program) (t : Nat) (x : AV) : Bool := match P.info? t with
  | some i => match i.zero with
    | some z => constOK z x
    | none => false
  | none => false
def argsOK : List Operand → List (Bool × AX) → Bool
  | [], [] => true
  | x :: xs, (_, y) :: ys => opdOK x y && argsOK xs ys
  | _, _ => false

def chkIns (P : Program) (o : Oper) (ins : AIns) : Bool :=
  match ins with
  | .mov x => match o.op with
    | .move y => opdOK y x
    | .assign y => opdOK y x
    | _ => false
  | .anil _ sz => match o.op with
    | .assign (.const (.slice none 0 0)) => decide (0 < sz)
    | _ => false
  | .pick c x y => match o.op with
    | .pick c' x' y' => opdOK c' c && opdOK x' x && opdOK y' y
    | _ => false
  | .new zero => match o.op with
    | .alloc t => zeroIs P t zero
    | _ => false
  | .box x => match o.op with
    | .box _ y => opdOK y x
    | _ => false
  | .agg zero parts => match o.op with
    | .build t ps => zeroIs P t zero && (match placesOf P t with | some pl => partsOK pl ps.toList parts | none => false)
    | _ => false
  | .mkl e sz zero n parts _ => match o.op with
    | .buildSlice t len ps => sliceIs P t e && sizeIs P e sz && zeroIs P e zero && decide (0 < sz) && len == n && decide (len * sz ≤ 16777216) && zero.length == sz && partsOKl ps.toList parts
    | _ => false
  | .load agg m p => match o.op with
    | .load t x => opdOK x p && aggIs P t agg && sizeIs P t m && (agg || m == 1)
    | _ => false
  | .store _ m p x => match o.op with
    | .store t p' x' => opdOK p' p && opdOK x' x && sizeIs P t m && o.dst.isNone
    | _ => false
  | .nilck x => match o.op with
    | .nilCheck y => opdOK y x
    | _ => false
  | .bin op ty x y => match o.op with
    | .binOp op' t x' y' _ => decide (op' = op) && opdOK x' x && opdOK y' y && (match ty with
        | 0 => true
        | 1 => (match P.underlying t with | some .bool => true | _ => false)
        | _ => false)
    | _ => false
  | .bins op ks x y => match o.op with
    | .binOp op' t x' y' _ => decide (op' = op) && opdOK x' x && opdOK y' y && (match P.underlying t with
        | some (.struct fs) => !P.eqGuardType P.depth t && !P.stoodInHeld t && structCmp P fs.toList 0 ks
        | _ => false)
    | _ => false
  | .un op x => match o.op with
    | .unOp op' _ x' => decide (op' = op) && opdOK x' x
    | _ => false
  | .conv k x => match o.op with
    | .convert src dst x' => opdOK x' x && (P.underlying src).isSome && (match P.underlying dst with | some (.int k') => decide (k' = k) | _ => false)
    | _ => false
  | .faddr off x => match o.op with
    | .fieldAddr t x' f => opdOK x' x && (match P.underlying t with
      | some (.struct fs) => (match fs[f]? with | some fl => fl.offset == off && (match P.info? fl.type with | some i => i.size != 0 | none => false) | none => false)
      | _ => false)
    | _ => false
  | .fld agg off m x => match o.op with
    | .field t x' f => opdOK x' x && (match P.underlying t with
      | some (.struct fs) => (match fs[f]? with | some fl => fl.offset == off && aggIs P fl.type agg && sizeIs P fl.type m && (agg || m == 1) | none => false)
      | _ => false)
    | _ => false
  | .iaddr sz x i => match o.op with
    | .indexAddr t x' i' => opdOK x' x && opdOK i' i && (match P.underlying t with | some (.slice e) => sizeIs P e sz | _ => false)
    | _ => false
  | .sidx x i => match o.op with
    | .index t x' i' => opdOK x' x && opdOK i' i && (match P.underlying t with | some .string => true | _ => false)
    | _ => false
  | .slc sz x lo hi mx => match o.op with
    | .slice t x' lo' hi' mx' => opdOK x' x && opdOKo lo' lo && opdOKo hi' hi && opdOKo mx' mx && (match P.underlying t with | some (.slice e) => sizeIs P e sz | _ => false) && (mx.isNone || hi.isSome) && decide (0 < sz)
    | _ => false
  | .isnil neg x => match o.op with
    | .binOp op t x' (.const (.slice none 0 0)) _ => opdOK x' x && (match P.underlying t with | some (.slice _) => true | _ => false) && decide (op = (if neg then .neq else .eql))
    | _ => false
  | .zap elem sz x => match o.op with
    | .slice t x' none (some (.const (.int _ 0))) (some (.const (.int _ 0))) => opdOK x' x && (match P.underlying t with | some (.slice e) => e == elem && sizeIs P e sz | _ => false) && decide (0 < sz)
    | _ => false
  | .sslc x lo hi => match o.op with
    | .slice t x' lo' hi' none => opdOK x' x && opdOKo lo' lo && opdOKo hi' hi && (match P.underlying t with | some .string => true | _ => false)
    | _ => false
  | .ext x i => match o.op with
    | .extract x' i' => opdOK x' x && i' == i
    | _ => false
  | .mks e sz bytes zero l => match o.op with
    | .makeSlice t l' c' => opdOK l' l && opdOK c' l && sliceIs P t e && sizeIs P e sz && bytesIs P e bytes && zeroIs P e zero && decide (0 < sz) && decide (0 < bytes) && zero.length == sz
    | _ => false
  | .mkf f caps => match o.op with
    | .makeFunc (.func f') first caps' => f' == f && first.isEmpty && opdsOK caps'.toList caps
    | _ => false
  | .mkm => match o.op with
    | .makeMap _ none => true
    | _ => false
  | .look kd ks zero ok m k => match o.op with
    | .lookup t m' k' ok' => ok' == ok && opdOK m' m && opdOK k' k && (match P.underlying t with
        | some (.map kt e) => keyTy P kt kd ks && zero1 P e zero
        | _ => false)
    | _ => false
  | .mset kd ks m k v => match o.op with
    | .mapUpdate t m' k' x | .insert t m' k' x => opdOK m' m && opdOK k' k && opdOK x v && (match P.underlying t with
        | some (.map kt _) => keyTy P kt kd ks
        | _ => false)
    | _ => false
  | .len ty x => match o.op with
    | .call { callee := .builtin .len, args, argTypes } => (match args.toList, argTypes.toList with
      | [x'], [t] => opdOK x' x && (match ty with
        | 0 => (match P.underlying t with | some .string => true | _ => false)
        | 1 => (match P.underlying t with | some (.slice _) => true | _ => false)
        | 2 => (match P.underlying t with | some (.map _ _) => true | _ => false)
        | _ => false)
      | _, _ => false)
    | _ => false
  | .app e sz bytes x y => match o.op with
    | .call { callee := .builtin .append, args, argTypes } => (match args.toList, argTypes.toList with
      | [x', y'], [t, t'] => opdOK x' x && opdOK y' y && t == t' && sliceIs P t e && sizeIs P e sz && bytesIs P e bytes && (match P.info? e with | some i => (match i.zero with | some z => z.cells.size == sz | none => false) | none => false) && decide (0 < sz) && decide (0 < bytes)
      | _, _ => false)
    | _ => false
  | .mm mx xs => match o.op with
    | .call { callee := .builtin b, args, .. } => (match b with | .max => mx | .min => !mx | _ => false) && opdsOK args.toList xs
    | _ => false
  | .call f args => match o.op with
    | .call { callee := .value (.func f'), args := args', .. } => f' == f % 100000 && argsOK args'.toList args
    | _ => false
  | .callv x args => match o.op with
    | .call { callee := .value x', args := args', .. } => opdOK x' x && argsOK args'.toList args
    | _ => false

/-- What an operation does to the world, told by what the instruction does. -/
def OpRes (C : Ctx) (q : Id) (r : Result Next) (av : AV) (H' : Heap) : Prop :=
  ∃ C' nv, r = .ok nv C'.w ∧ ((∃ v, nv = .value v ∧ Rep C' av v) ∨ (nv = .skip ∧ av = .undef)) ∧ C'.H = H' ∧ HRep C' ∧ Ext C C' ∧ (∀ id, C.Av id → ¬ q <+: id → C'.Av id)

theorem OpRes.pure {C : Ctx} {q : Id} {r : Result Next} {av : AV} {H' : Heap} {v : Value} (hr : HRep C) (h : r = .ok (.value v) C.w) (hv : Rep C av v) (hH : C.H = H') : OpRes C q r av H' :=
  ⟨C, .value v, h, .inl ⟨v, rfl, hv⟩, hH, hr, Ext.refl C, fun _ h _ => h⟩

theorem OpRes.flag {C : Ctx} {q : Id} {r : Result Next} {av : AV} {H' : Heap} {v : Value} (hr : HRep C) (hf : FlagLe C.H H') (h : r = .ok (.value v) C.w) (hv : Rep { C with H := H' } av v) : OpRes C q r av H' :=
  ⟨{ C with H := H' }, .value v, h, .inl ⟨v, rfl, hv⟩, rfl, hf.hrep hr, hf.ext, fun _ h _ => h⟩

/-- The names that are left behind an event. -/
def less (A : Id → Prop) (q : Id) : Id → Prop := fun i => A i ∧ ¬ q <+: i

theorem OpRes.new' {nv0 : Value} {C C0 : Ctx} {q : Id} {r : Result Next} {av : AV} {H' : Heap} {o : AObj} {v : Value} {w : World} (hr : HRep C) (hq : ∀ id, q <+: id → C.Av id)
    (h0 : C0.w = C.w ∧ C0.Av = C.Av) (he0 : Ext C0 C)
    (hrun : r = .ok (.value nv0) w) (hH : H' = hadd C.H q o) (hsz : C.w.heap.size ≤ w.heap.size) (hold : ∀ k, k < C.w.heap.size → w.heap[k]? = C.w.heap[k]?)
    (ht : w.tape = C.w.tape) (hos : w.os = C.w.os) (hout : w.output = C.w.output) (hb : ∀ g, blk v = some g → C.w.heap.size ≤ g)
    (hv : Ext C (C.put (hadd C.H q o) q v w (less C.Av q)) → Rep (C.put (hadd C.H q o) q v w (less C.Av q)) av nv0)
    (ho : Ext C (C.put (hadd C.H q o) q v w (less C.Av q)) → ObjRep (C.put (hadd C.H q o) q v w (less C.Av q)) q o) : OpRes C0 q r av H' := by
  have hA : ∀ i, less C.Av q i → C.Av i := fun i h => h.1
  have hid : ¬ less C.Av q q := fun h => h.2 (List.prefix_refl _)
  have ha : C.Av q := hq q (List.prefix_refl _)
  have he := Ext.new (o := o) (v := v) hr ha hA hsz hold ht hos hout hb
  exact ⟨_, _, hrun, .inl ⟨nv0, rfl, hv he⟩, hH.symm, HRep.new hr ha hA hid hsz hold ht hos hout hb ho, he0.trans he, fun id h1 h2 => ⟨h0.2 ▸ h1, h2⟩⟩

theorem OpRes.new {C C0 : Ctx} {q : Id} {r : Result Next} {av : AV} {H' : Heap} {o : AObj} {v : Value} {w : World} (hr : HRep C) (hq : ∀ id, q <+: id → C.Av id)
    (h0 : C0.w = C.w ∧ C0.Av = C.Av) (he0 : Ext C0 C)
    (hrun : r = .ok (.value v) w) (hH : H' = hadd C.H q o) (hsz : C.w.heap.size ≤ w.heap.size) (hold : ∀ k, k < C.w.heap.size → w.heap[k]? = C.w.heap[k]?)
    (ht : w.tape = C.w.tape) (hos : w.os = C.w.os) (hout : w.output = C.w.output) (hb : ∀ g, blk v = some g → C.w.heap.size ≤ g)
    (hv : Ext C (C.put (hadd C.H q o) q v w (less C.Av q)) → Rep (C.put (hadd C.H q o) q v w (less C.Av q)) av v)
    (ho : Ext C (C.put (hadd C.H q o) q v w (less C.Av q)) → ObjRep (C.put (hadd C.H q o) q v w (less C.Av q)) q o) : OpRes C0 q r av H' := by
  have hA : ∀ i, less C.Av q i → C.Av i := fun i h => h.1
  have hid : ¬ less C.Av q q := fun h => h.2 (List.prefix_refl _)
  have ha : C.Av q := hq q (List.prefix_refl _)
  have he := Ext.new (o := o) (v := v) hr ha hA hsz hold ht hos hout hb
  exact ⟨_, .value v, hrun, .inl ⟨v, rfl, hv he⟩, hH.symm, HRep.new hr ha hA hid hsz hold ht hos hout hb ho, he0.trans he, fun id h1 h2 => ⟨h0.2 ▸ h1, h2⟩⟩

theorem rep_own_new {C : Ctx} {q : Id} {o : AObj} {v : Value} {w : World} {n : Nat} (hn : asize o = n) (hs : ∃ a l c, v = .slice a l c) : Rep (C.put (hadd C.H q o) q v w (less C.Av q)) (.own q n) v := by
  refine .own q n v (fun h => h.2 (List.prefix_refl _)) hs fun o' e => ?_
  have e' : hget (hadd C.H q o) q = some o' := e
  rw [hget_hadd, if_pos rfl] at e'
  injection e' with e'
  subst e'
  exact ⟨by omega, fun _ => .inl (put_self _ _ _ _ _ _).symm⟩

theorem rep_ref_new {C : Ctx} {q : Id} {cells : List AV} {g : Nat} {w : World} : Rep (C.put (hadd C.H q (.box cells)) q (.pointer (some ⟨g, 0, none⟩)) w (less C.Av q)) (.ref q 1 0 0) (.pointer (some ⟨g, 0, none⟩)) := by
  refine .ref q 1 0 0 _ (fun h => h.2 (List.prefix_refl _)) ⟨_, rfl⟩ fun o' e => ?_
  have e' : hget (hadd C.H q (.box cells)) q = some o' := e
  rw [hget_hadd, if_pos rfl] at e'
  injection e' with e'
  subst e'
  exact ⟨Nat.le_refl _, fun _ => ⟨g, by rw [put_self]; rfl, by simp [cellsz]⟩⟩

section
variable {P : Program} {o : Oper} {a : Act} {C : Ctx} {nt : Nat} {s s' : St} {av : AV}

theorem ok_mov {x : AX} (sim : SimE nt s.env C a) (hH : C.H = s.heap) (hr : HRep C) (hc : chkIns P o (.mov x) = true) (h : ains (.mov x) s = some (av, s')) :
    OpRes C (s.p ++ [s.k]) ((execOp a.eval o).run P C.w) av s'.heap := by
  simp only [ains, Option.some.injEq, Prod.mk.injEq] at h
  obtain ⟨rfl, rfl⟩ := h
  simp only [chkIns] at hc
  split at hc
  · rename_i y e; exact .pure hr (by simp [execOp, e]) (rep_opd sim hc) hH
  · rename_i y e; exact .pure hr (by simp [execOp, e]) (rep_opd sim hc) hH
  · cases hc

theorem ok_anil {e sz : Nat} (sim : SimE nt s.env C a) (hH : C.H = s.heap) (hr : HRep C) (hq : ∀ id, (s.p ++ [s.k]) <+: id → C.Av id) (hc : chkIns P o (.anil e sz) = true) (h : ains (.anil e sz) s = some (av, s')) :
    OpRes C (s.p ++ [s.k]) ((execOp a.eval o).run P C.w) av s'.heap := by
  simp only [ains, Option.some.injEq, Prod.mk.injEq] at h
  obtain ⟨rfl, rfl⟩ := h
  simp only [chkIns] at hc
  split at hc
  · rename_i eo
    have h0 : 0 < sz := of_decide_eq_true hc
    refine .new (o := .row true true e sz []) (v := .slice none 0 0) (w := C.w) hr hq ⟨rfl, rfl⟩ (Ext.refl C) (by simp [execOp, eo, Act.eval]) (by simp [St.add, hH]) (Nat.le_refl _) (fun _ _ => rfl) rfl rfl rfl (by simp [blk]) (fun _ => rep_own_new rfl ⟨_, _, _, rfl⟩) (fun _ => ?_)
    refine ⟨h0, by simp, by intro j av; simp, [], ?_, .nil⟩
    rw [put_self]
    exact World.ownsRow_nil _ _ _ _
  · cases hc

theorem ok_pick {c x y : AX} (sim : SimE nt s.env C a) (hH : C.H = s.heap) (hr : HRep C) (hc : chkIns P o (.pick c x y) = true) (h : ains (.pick c x y) s = some (av, s')) :
    OpRes C (s.p ++ [s.k]) ((execOp a.eval o).run P C.w) av s'.heap := by
  simp only [ains] at h
  simp only [chkIns] at hc
  split at hc
  · rename_i c' x' y' eo
    simp only [Bool.and_eq_true] at hc
    split at h
    · rename_i t et
      simp only [Option.some.injEq, Prod.mk.injEq] at h
      obtain ⟨rfl, rfl⟩ := h
      have hcv := rep_opd sim hc.1.1
      rw [et] at hcv
      have e1 := hcv.bool_inv
      refine .pure hr (v := if t then a.eval x' else a.eval y') (by simp [execOp, eo, e1, asBool]) ?_ hH
      cases t
      · exact rep_opd sim hc.2
      · exact rep_opd sim hc.1.2
    · cases h
  · cases hc

theorem alloc_heap (w : World) (ob : Obj) : (w.alloc ob).heap = w.heap.push ob := rfl
theorem alloc_old (w : World) (ob : Obj) (k : Nat) (hk : k < w.heap.size) : (w.alloc ob).heap[k]? = w.heap[k]? := by
  rw [alloc_heap, Array.getElem?_push, if_neg (by omega)]
theorem alloc_new (w : World) (ob : Obj) : (w.alloc ob).heap[w.heap.size]? = some ob := by simp [alloc_heap]

theorem ok_new {zero : List AV} (sim : SimE nt s.env C a) (hH : C.H = s.heap) (hr : HRep C) (hq : ∀ id, (s.p ++ [s.k]) <+: id → C.Av id) (hc : chkIns P o (.new zero) = true) (h : ains (.new zero) s = some (av, s')) :
    OpRes C (s.p ++ [s.k]) ((execOp a.eval o).run P C.w) av s'.heap := by
  simp only [ains, Option.some.injEq, Prod.mk.injEq] at h
  obtain ⟨rfl, rfl⟩ := h
  simp only [chkIns] at hc
  split at hc
  · rename_i t eo
    obtain ⟨i, z, h1, h2, h3⟩ := zeroIs_iff hc
    refine .new (o := .box zero) (v := .pointer (some ⟨C.w.heap.size, 0, none⟩)) (w := C.w.alloc (.cells z.cells t)) hr hq ⟨rfl, rfl⟩ (Ext.refl C) ?_ (by simp [St.add, hH]) (by simp [alloc_heap]) (fun k hk => alloc_old _ _ _ hk) rfl rfl rfl (by intro g hg; simp [blk] at hg; omega) (fun _ => rep_ref_new) (fun _ => ?_)
    · simp [execOp, eo, Instr.alloc, run_zeroValue' h1 h2, newVar, newRow]
    · obtain ⟨r1, r2⟩ := rep_constCells (C.put (hadd C.H (s.p ++ [s.k]) (.box zero)) (s.p ++ [s.k]) (.pointer (some ⟨C.w.heap.size, 0, none⟩)) (C.w.alloc (.cells z.cells t)) (less C.Av (s.p ++ [s.k]))) h3
      exact ⟨r2, C.w.heap.size, z.cells, t, put_self _ _ _ _ _ _, alloc_new _ _, r1⟩
  · cases hc

theorem ok_box {x : AX} (sim : SimE nt s.env C a) (hH : C.H = s.heap) (hr : HRep C) (hq : ∀ id, (s.p ++ [s.k]) <+: id → C.Av id) (hc : chkIns P o (.box x) = true) (h : ains (.box x) s = some (av, s')) :
    OpRes C (s.p ++ [s.k]) ((execOp a.eval o).run P C.w) av s'.heap := by
  simp only [ains] at h
  simp only [chkIns] at hc
  split at hc
  · rename_i t y eo
    split at h
    · rename_i cs ecs
      simp only [Option.some.injEq, Prod.mk.injEq] at h
      obtain ⟨rfl, rfl⟩ := h
      obtain ⟨r1, r2⟩ := cellsOf_rep (rep_opd sim hc) ecs
      refine .new (o := .box cs) (v := .pointer (some ⟨C.w.heap.size, 0, none⟩)) (w := C.w.alloc (.cells (a.eval y).cells t)) hr hq ⟨rfl, rfl⟩ (Ext.refl C) ?_ (by simp [St.add, hH]) (by simp [alloc_heap]) (fun k hk => alloc_old _ _ _ hk) rfl rfl rfl (by intro g hg; simp [blk] at hg; omega) (fun _ => rep_ref_new) (fun he => ?_)
      · simp [execOp, eo, Instr.box, newVar, newRow]
      · exact ⟨r2, C.w.heap.size, _, t, put_self _ _ _ _ _ _, alloc_new _ _, r1.mono fun _ _ r => r.ext he⟩
    · cases h
  · cases hc

end
end Go.Proofs.Abs
