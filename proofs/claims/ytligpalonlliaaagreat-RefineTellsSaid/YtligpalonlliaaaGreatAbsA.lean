/- A part of a proof: the text that states the row tells what is proved. No condition is laid on anything. -/
import Derived.Tactics
import Derived.Laws.AppendOwn
import Derived.Laws.OwnMore
import Derived.Laws.MakeOwn
import Derived.Laws.CopyRow
import Derived.Laws.Slices
import Derived.Laws.Append
import Derived.Laws.Tables
import Derived.Laws.Cells
import Derived.Laws.NewFold
import Derived.Great.BuildSlice
import Derived.Laws.Cover3
import Derived.Laws.StructEq
import Derived.WideKeyRuns
set_option linter.all false
set_option linter.constructorNameAsVariable false
set_option linter.defProp false
set_option linter.unusedVariables false
set_option linter.unusedSimpArgs false
namespace Go.Proofs.Abs

/-- An abstract object's name: the path of events that made it. -/
abbrev Id := List Nat

/-- Abstract values. 'list': a slice whose elements are never written again, told by its contents; 'emp': a slice without elements that is not nil; 'tl': what is left of a slice over an object from an element on; 'own': a slice over the whole of an object of the abstract heap; 'rp': a pointer to cells that are never written again; 'ref': a pointer to a cell of an object. -/
inductive AV where
  | undef
  | bool (b : Bool)
  | int (k : IntKind) (n : Int)
  | str (s : ByteArray)
  | nils
  | list (sz : Nat) (rows : List (List AV))
  | own (id : Id) (n : Nat)
  | emp
  | tl (id : Id) (n i : Nat)
  | agg (cs : List AV)
  | tuple (vs : List AV)
  | nilp
  | rp (cs : List AV)
  | ref (id : Id) (n i j : Nat)
  | nilm
  | map (id : Id)
  | nilf
  | func (f : Nat) (caps : List AV)
  | nili
  | iface (t : Nat) (v : AV)
  deriving Inhabited

/-- Abstract objects: an array behind slices (may its elements be written; are all its cells free of 'own'; its element type, the cells of one, the elements), a variable, a map. -/
inductive AObj where
  | row (wr flat : Bool) (elem sz : Nat) (rows : List (List AV))
  | box (cells : List AV)
  | map (es : List (AV × AV))
  deriving Inhabited

abbrev Fr := List (Id × AObj)
abbrev Heap := List Fr

def fget : Fr → Id → Option AObj
  | [], _ => none
  | (i, o) :: r, id => if i = id then some o else fget r id

def hget : Heap → Id → Option AObj
  | [], _ => none
  | f :: r, id => match fget f id with
    | some o => some o
    | none => hget r id

def fset : Fr → Id → AObj → Fr
  | [], _, _ => []
  | (i, o) :: r, id, x => if i = id then (i, x) :: r else (i, o) :: fset r id x

def hset : Heap → Id → AObj → Heap
  | [], _, _ => []
  | f :: r, id, x => match fget f id with
    | some _ => fset f id x :: r
    | none => f :: hset r id x

def hadd : Heap → Id → AObj → Heap
  | [], id, x => [[(id, x)]]
  | f :: r, id, x => ((id, x) :: f) :: r

/-- The top frame's objects handed down to the one below. -/
def hmerge : Heap → Heap
  | f :: g :: r => (f ++ g) :: r
  | h => h

def hpop : Heap → Heap
  | _ :: r => r
  | [] => []

abbrev Env := List (Nat × AV)

def eget : Env → Nat → AV
  | [], _ => .undef
  | (i, v) :: r, j => if i = j then v else eget r j

def eset : Env → Nat → AV → Env
  | [], j, x => [(j, x)]
  | (i, v) :: r, j, x => if i = j then (i, x) :: r else (i, v) :: eset r j x

def edrop (e : Env) (l : List Nat) : Env := e.filter fun p => !l.contains p.1
/-- Only the slots that an elder environment had. -/
def ekeep (e : Env) (l : List Nat) : Env := e.filter fun p => l.contains p.1

structure St where
  env : Env
  heap : Heap
  p : Id
  k : Nat

inductive AX where
  | t (i : Nat)
  | k (v : AV)
  deriving Inhabited

def AX.ev (e : Env) : AX → AV
  | .t i => eget e i
  | .k v => v

inductive AIns where
  | mov (x : AX)
  | anil (elem sz : Nat)
  | pick (c a b : AX)
  | new (zero : List AV)
  | box (x : AX)
  | agg (zero : List AV) (parts : List (Nat × Nat × AX))
  | mkl (elem sz : Nat) (zero : List AV) (n : Nat) (parts : List (Nat × AX)) (raw : Bool)
  | load (agg : Bool) (m : Nat) (p : AX)
  | store (raw : Bool) (m : Nat) (p x : AX)
  | nilck (x : AX)
  | bin (op : BinOp) (ty : Nat) (x y : AX)
  | bins (op : BinOp) (ks : List Nat) (x y : AX)
  | un (op : UnOp) (x : AX)
  | conv (k : IntKind) (x : AX)
  | faddr (off : Nat) (x : AX)
  | fld (agg : Bool) (off m : Nat) (x : AX)
  | iaddr (sz : Nat) (x i : AX)
  | sidx (x i : AX)
  | slc (sz : Nat) (x : AX) (lo hi mx : Option AX)
  | zap (elem sz : Nat) (x : AX)
  | tlz (sz : Nat) (x i : AX)
  | clr (elem sz : Nat) (zero : List AV) (x : AX)
  | isnil (neg : Bool) (x : AX)
  | sslc (x : AX) (lo hi : Option AX)
  | ext (x : AX) (i : Nat)
  | mks (elem sz bytes : Nat) (zero : List AV) (l : AX)
  | mkf (f : Nat) (caps : List AX)
  | mkm
  | look (kd : Nat) (ks : List Nat) (zero : AV) (ok : Bool) (m k : AX)
  | mset (kd : Nat) (ks : List Nat) (m k v : AX)
  | len (ty : Nat) (x : AX)
  | app (elem sz bytes : Nat) (x y : AX)
  | mm (max : Bool) (xs : List AX)
  | call (f : Nat) (args : List (Bool × AX))
  | callv (x : AX) (args : List (Bool × AX))
  /-- A slice that is never written again. -/
  | lst (elem sz : Nat) (zero : List AV) (n : Nat) (parts : List (Nat × AX))
  deriving Inhabited

/-- An operation: where its value goes, its guard, and (where a region draws its order) which operations stand ahead of it in every order. -/
structure AIn where
  d : Option Nat
  g : Option (Nat × Bool)
  i : AIns
  pre : List Nat := []
  deriving Inhabited

inductive ACode where
  | skip
  | reg (is : List AIn) (drop : List Nat)
  | dreg (is : List AIn) (drop : List Nat)
  | seq (a b : ACode)
  | cond (c : AX) (drop : List Nat) (a b : ACode)
  | block (id : Nat) (c : ACode)
  /-- mg: the objects of a round are kept behind it. -/
  | loop (mg : Bool) (c : ACode)
  | exit (id : Nat)
  | ret
  /-- Code that is never reached (a panic behind a test). -/
  | stuck
  deriving Inhabited

inductive AExit where
  | normal
  | exit (id : Nat)
  | ret
  deriving Inhabited, DecidableEq

inductive RV where
  | t (i : Nat)
  | c (i : Nat) (agg : Bool) (m : Nat)
  deriving Inhabited

structure AFn where
  np : Nat
  nt : Nat
  body : ACode
  res : List RV
  /-- What of its own a call hands back: 0: nothing (the results are told by their contents), 1: the one slice that is its result, 2: all. -/
  keep : Nat
  deriving Inhabited

/-! ### Operations -/
def cellsOf : AV → Option (List AV)
  | .agg cs => some cs
  | .undef => none
  | .tuple _ => none
  | .tl _ _ _ => none
  | v => some [v]

def isCell : AV → Bool
  | .agg _ | .undef | .tuple _ | .tl _ _ _ => false
  | _ => true

def ofCells (agg : Bool) (cs : List AV) : Option AV :=
  if agg then some (.agg cs) else match cs with
    | [v] => some v
    | _ => none

/-- A value as it may be kept for good: a slice of one's own becomes its contents, and these are never written again. -/
def fzd : Nat → Heap → AV → Option (AV × Heap)
  | 0, _, _ => none
  | d + 1, H, v =>
    match v with
    | .own id n =>
      match hget H id with
      | some (.row _ true e sz rows) => if rows.length = n then some (.list sz rows, hset H id (.row false true e sz rows)) else none
      | some (.row _ false e sz rows) =>
        if rows.length = n then
          match fzrows (fzd d) (hset H id (.row false false e sz rows)) rows with
          | some (rows', H') => some (.list sz rows', H')
          | none => none
        else none
      | _ => none
    | .agg cs => match fzcells (fzd d) H cs with
      | some (cs', H') => some (.agg cs', H')
      | none => none
    | .tuple cs => match fzcells (fzd d) H cs with
      | some (cs', H') => some (.tuple cs', H')
      | none => none
    | .tl _ _ _ => none
    | v => some (v, H)
where
  fzcells (f : Heap → AV → Option (AV × Heap)) : Heap → List AV → Option (List AV × Heap)
    | H, [] => some ([], H)
    | H, c :: cs => match f H c with
      | some (c', H1) => match fzcells f H1 cs with
        | some (cs', H2) => some (c' :: cs', H2)
        | none => none
      | none => none
  fzrows (f : Heap → AV → Option (AV × Heap)) : Heap → List (List AV) → Option (List (List AV) × Heap)
    | H, [] => some ([], H)
    | H, c :: cs => match fzcells f H c with
      | some (c', H1) => match fzrows f H1 cs with
        | some (cs', H2) => some (c' :: cs', H2)
        | none => none
      | none => none

abbrev fz (H : Heap) (v : AV) : Option (AV × Heap) := fzd 4 H v

def aint (op : BinOp) (k : IntKind) (a b : Int) : Option AV :=
  match op with
  | .add => some (.int k (k.wrap (a + b)))
  | .sub => some (.int k (k.wrap (a - b)))
  | .mul => some (.int k (k.wrap (a * b)))
  | .quo => if b = 0 then none else some (.int k (k.wrap (a.tdiv b)))
  | .rem => if b = 0 then none else some (.int k (a.tmod b))
  | .eql => some (.bool (a == b))
  | .neq => some (.bool (a != b))
  | .lss => some (.bool (decide (a < b)))
  | .leq => some (.bool (decide (a ≤ b)))
  | .gtr => some (.bool (decide (a > b)))
  | .geq => some (.bool (decide (a ≥ b)))
  | _ => none

def ashift (op : BinOp) (k : IntKind) (a b : Int) : Option AV :=
  if b < 0 then none else
  match op with
  | .shl => some (.int k (k.wrap (a * 2 ^ (min b.toNat k.bits))))
  | .shr => some (.int k (a.fdiv (2 ^ (min b.toNat k.bits))))
  | _ => none

def astr (op : BinOp) (a b : ByteArray) : Option AV :=
  match op with
  | .add => if ((a.size + b.size : Nat) : Int) > IntKind.i64.max then none else some (.str (a ++ b))
  | .eql => some (.bool (a.toList == b.toList))
  | .neq => some (.bool (!(a.toList == b.toList)))
  | _ => none

/-- '==' of cells of one struct: of numbers (0), bools (1) and strings (2). -/
def acells : List Nat → List AV → List AV → Option Bool
  | [], [], [] => some true
  | 0 :: ks, .int k a :: r, .int k' b :: r' => if k = k' then (if a == b then acells ks r r' else some false) else none
  | 1 :: ks, .bool a :: r, .bool b :: r' => if a == b then acells ks r r' else some false
  | 2 :: ks, .str a :: r, .str b :: r' => if a == b then acells ks r r' else some false
  | _, _, _ => none

/-- ty: 0 numbers and strings, 1 bools. -/
def abin (op : BinOp) (ty : Nat) (x y : AV) : Option AV :=
  match ty, x, y with
  | 0, .int k a, .int k' b =>
    match op with
    | .shl | .shr => ashift op k a b
    | _ => if k = k' then aint op k a b else none
  | 0, .str a, .str b => astr op a b
  | 1, .bool a, .bool b =>
    match op with
    | .eql => some (.bool (a == b))
    | .neq => some (.bool (!(a == b)))
    | _ => none
  | _, _, _ => none

/-- Structs. -/
def abins (op : BinOp) (ks : List Nat) (x y : AV) : Option AV :=
  match x, y with
  | .agg a, .agg b =>
    match op with
    | .eql => (acells ks a b).map .bool
    | .neq => (acells ks a b).map fun r => .bool (!r)
    | _ => none
  | _, _ => none

def aun (op : UnOp) (x : AV) : Option AV :=
  match op, x with
  | .not, .bool b => some (.bool (!b))
  | .neg, .int k n => some (.int k (k.wrap (0 - n)))
  | _, _ => none

/-- Parts laid over zero cells. -/
def afill : List AV → List (Nat × Nat × List AV) → Option (List AV)
  | cells, [] => some cells
  | cells, (off, size, v) :: rest =>
    if v.length = size ∧ off + size ≤ cells.length then afill (cells.take off ++ v ++ cells.drop (off + size)) rest else none

def asize : AObj → Nat
  | .row _ _ _ _ rows => rows.length
  | .box _ => 1
  | .map _ => 0

/-- kd: 0 numbers, 1 bools, 2 strings, 3 structs and arrays. -/
def keyEq (kd : Nat) (ks : List Nat) (x y : AV) : Option Bool :=
  match kd, x, y with
  | 0, .int k a, .int k' b => if k = k' then some (a == b) else none
  | 1, .bool a, .bool b => some (a == b)
  | 2, .str a, .str b => some (a == b)
  | 3, .agg a, .agg b => acells ks a b
  | _, _, _ => none

def mfind (kd : Nat) (ks : List Nat) : List (AV × AV) → AV → Option (Option AV)
  | [], k => match keyEq kd ks k k with
    | some _ => some none
    | none => none
  | (k', v) :: r, k => match keyEq kd ks k k' with
    | some true => some (some v)
    | some false => mfind kd ks r k
    | none => none

def mput (kd : Nat) (ks : List Nat) : List (AV × AV) → AV → AV → Option (List (AV × AV))
  | [], k, v => match keyEq kd ks k k with
    | some _ => some [(k, v)]
    | none => none
  | (k', v') :: r, k, v => match keyEq kd ks k k' with
    | some true => some ((k, v) :: r)
    | some false => (mput kd ks r k v).map fun r' => (k', v') :: r'
    | none => none

def bnd (e : Env) (x : Option AX) (dflt : Nat) : Option Nat :=
  match x with
  | none => some dflt
  | some a => match a.ev e with
    | .int _ n => if 0 ≤ n then some n.toNat else none
    | _ => none

def agetl (l : List AX) (e : Env) : List AV := l.map (·.ev e)

def foldMin (mx : Bool) : IntKind → Int → List AV → Option AV
  | k, a, [] => some (.int k a)
  | k, a, .int k' b :: r => if k = k' then foldMin mx k (if mx then (if a < b then b else a) else (if b < a then b else a)) r else none
  | _, _, _ => none

def St.fresh (s : St) : Id := s.p ++ [s.k]
def St.add (s : St) (o : AObj) : St := { s with heap := hadd s.heap (s.p ++ [s.k]) o, k := s.k + 1 }

/-- The elements of a slice that is read. -/
def rowsOf (H : Heap) (v : AV) (sz : Nat) : Option (List (List AV)) :=
  match v with
  | .list sz' rows => if sz' = sz then some rows else none
  | .nils => some []
  | .emp => some []
  | .own id n => match hget H id with
    | some (.row _ _ _ sz' rows) => if sz' = sz ∧ rows.length = n then some rows else none
    | _ => none
  | _ => none

def partsOf (e : Env) (H : Heap) (raw : Bool) : List (Nat × AX) → Option (List (Nat × List AV) × Heap)
  | [] => some ([], H)
  | (i, x) :: r =>
    match (if raw then some (x.ev e, H) else fz H (x.ev e)) with
    | some (v, H1) =>
      match cellsOf v, partsOf e H1 raw r with
      | some cs, some (l, H2) => some ((i, cs) :: l, H2)
      | _, _ => none
    | none => none

def partsOfA (e : Env) : List (Nat × Nat × AX) → Option (List (Nat × Nat × List AV))
  | [] => some []
  | (off, sz, x) :: r =>
    match cellsOf (x.ev e), partsOfA e r with
    | some cs, some l => some ((off, sz, cs) :: l)
    | _, _ => none

def setRows : List (List AV) → List (Nat × List AV) → Option (List (List AV))
  | rows, [] => some rows
  | rows, (i, cs) :: r => match rows[i]? with
    | some old => if old.length = cs.length then setRows (rows.set i cs) r else none
    | none => none

def loadObj (o : AObj) (n i j m : Nat) : Option (List AV) :=
  match o with
  | .row _ _ _ _ rows => if rows.length = n then (rows[i]?).map fun r => (r.drop j).take m else none
  | .box cs => if n = 1 ∧ i = 0 then some ((cs.drop j).take m) else none
  | .map _ => none

/-- What is appended to a row of one's own. -/
def appG (elem sz bytes : Nat) (xv yv : AV) (H : Heap) : Option (AV × Heap) :=
  match rowsOf H yv sz with
  | some new => match xv with
    | .own id n => match hget H id with
      | some (.row wr flat el sz' rows) =>
        if el = elem ∧ sz' = sz ∧ rows.length = n ∧ (n + new.length) * bytes ≤ 140737488355328 then
          let fl := match yv with
            | .own id2 _ => match hget H id2 with
              | some (.row _ fl _ _ _) => fl
              | _ => false
            | _ => true
          some (.own id (n + new.length), hset H id (.row wr (flat && fl) el sz' (rows ++ new)))
        else none
      | _ => none
    | _ => none
  | none => none

def ains (ins : AIns) (s : St) : Option (AV × St) :=
  let e := s.env
  match ins with
  | .mov x => some (x.ev e, s)
  | .anil elem sz => some (.own (s.p ++ [s.k]) 0, s.add (.row true true elem sz []))
  | .pick c a b => match c.ev e with
    | .bool t => some (if t then a.ev e else b.ev e, s)
    | _ => none
  | .new zero => some (.ref (s.p ++ [s.k]) 1 0 0, s.add (.box zero))
  | .box x => match cellsOf (x.ev e) with
    | some cs => some (.ref (s.p ++ [s.k]) 1 0 0, s.add (.box cs))
    | none => none
  | .agg zero parts => match partsOfA e parts with
    | some l => (afill zero l).map fun cs => (.agg cs, s)
    | none => none
  | .mkl elem sz zero n parts raw => match partsOf e s.heap raw parts with
    | some (l, H) => match setRows (List.replicate n zero) l with
      | some rows => some (.own (s.p ++ [s.k]) n, St.add { s with heap := H } (.row true (!raw) elem sz rows))
      | none => none
    | none => none
  | .load agg m p => match p.ev e with
    | .rp cs => if m ≤ cs.length then (ofCells agg (cs.take m)).map fun v => (v, s) else none
    | .ref id n i j => match hget s.heap id with
      | some o => match loadObj o n i j m with
        | some cs => if cs.length = m then (ofCells agg cs).map fun v => (v, s) else none
        | none => none
      | none => none
    | _ => none
  | .store raw m p x => match p.ev e with
    | .ref id n i j => match hget s.heap id with
      | some (.row true flat el sz rows) =>
        match (if raw then some (x.ev e, s.heap) else fz s.heap (x.ev e)) with
        | some (v, H) => match cellsOf v, rows[i]?, hget H id with
          | some cs, some old, some (.row true _ _ _ _) => if rows.length = n ∧ cs.length = m ∧ j + m ≤ old.length then
              some (.undef, { s with heap := hset H id (.row true (flat && !raw) el sz (rows.set i (old.take j ++ cs ++ old.drop (j + m)))) }) else none
          | _, _, _ => none
        | none => none
      | some (.box cells) => match cellsOf (x.ev e) with
        | some cs => if n = 1 ∧ i = 0 ∧ cs.length = m ∧ j + m ≤ cells.length then
            some (.undef, { s with heap := hset s.heap id (.box (cells.take j ++ cs ++ cells.drop (j + m))) }) else none
        | none => none
      | _ => none
    | _ => none
  | .nilck x => match x.ev e with
    | .rp cs => some (.rp cs, s)
    | .ref id n i j => some (.ref id n i j, s)
    | .func f caps => some (.func f caps, s)
    | _ => none
  | .bin op ty x y => (abin op ty (x.ev e) (y.ev e)).map fun v => (v, s)
  | .bins op ks x y => (abins op ks (x.ev e) (y.ev e)).map fun v => (v, s)
  | .un op x => (aun op (x.ev e)).map fun v => (v, s)
  | .conv k x => match x.ev e with
    | .int _ n => some (.int k (k.wrap n), s)
    | _ => none
  | .faddr off x => match x.ev e with
    | .rp cs => some (.rp (cs.drop off), s)
    | .ref id n i j => some (.ref id n i (j + off), s)
    | _ => none
  | .fld agg off m x => match x.ev e with
    | .agg cs => if off + m ≤ cs.length then (ofCells agg ((cs.drop off).take m)).map fun v => (v, s) else none
    | _ => none
  | .iaddr sz x i => match x.ev e, i.ev e with
    | .list sz' rows, .int _ n => if sz' = sz ∧ 0 ≤ n then (rows[n.toNat]?).map fun r => (.rp r, s) else none
    | .own id len, .int _ n => match hget s.heap id with
      | some (.row _ _ _ sz' rows) => if sz' = sz ∧ rows.length = len ∧ 0 ≤ n ∧ n < len then some (.ref id len n.toNat 0, s) else none
      | _ => none
    | _, _ => none
  | .sidx x i => match x.ev e, i.ev e with
    | .str b, .int _ n => if 0 ≤ n then (b[n.toNat]?).map fun c => (.int .u8 c.toNat, s) else none
    | _, _ => none
  | .isnil neg x => match x.ev e with
    | .nils => some (.bool (!neg), s)
    | .emp => some (.bool neg, s)
    | .list _ (_ :: _) => some (.bool neg, s)
    | .own id n => match hget s.heap id with
      | some (.row _ _ _ _ rows) => if rows.length = n ∧ 0 < n then some (.bool neg, s) else none
      | _ => none
    | _ => none
  | .sslc x lo hi => match x.ev e with
    | .str b => match bnd e hi b.size with
      | some h => match bnd e lo 0 with
        | some l => if l ≤ h ∧ h ≤ b.size then some (.str (b.extract l h), s) else none
        | none => none
      | none => none
    | _ => none
  | .zap elem sz x => match rowsOf s.heap (x.ev e) sz with
    | some _ => some (.own (s.p ++ [s.k]) 0, s.add (.row true true elem sz []))
    | none => none
  | .tlz sz x i => match x.ev e, i.ev e with
    | .own id n, .int _ k => match hget s.heap id with
      | some (.row true _ _ sz' rows) => if sz' = sz ∧ rows.length = n ∧ 0 ≤ k ∧ k < n then some (.tl id n k.toNat, s) else none
      | _ => none
    | _, _ => none
  | .clr elem sz zero x => match x.ev e with
    | .tl id n i => match hget s.heap id with
      | some (.row true fl el sz' rows) => if el = elem ∧ sz' = sz ∧ rows.length = n ∧ i < n then
          some (.undef, { s with heap := hset s.heap id (.row true fl el sz' (rows.take i ++ List.replicate (n - i) zero)) }) else none
      | _ => none
    | _ => none
  | .slc sz x lo hi mx => match x.ev e with
    | v => match rowsOf s.heap v sz with
      | some rows => match bnd e hi rows.length with
        | some h => match bnd e lo 0 with
          | some l => match bnd e mx rows.length with
            | some m =>
              if l ≤ h ∧ h ≤ m ∧ m ≤ rows.length then
                match v with
                | .own id n => if l = 0 ∧ h = n ∧ mx.isNone then some (v, s) else
                  match fz s.heap v with
                  | some (.list _ rows', H) => some (.list sz ((rows'.take h).drop l), { s with heap := H })
                  | _ => none
                | _ => some (.list sz ((rows.take h).drop l), s)
              else none
            | none => none
          | none => none
        | none => none
      | none => none
  | .ext x i => match x.ev e with
    | .tuple vs => (vs[i]?).map fun v => (v, s)
    | _ => none
  | .mks elem sz bytes zero l => match l.ev e with
    | .int .i64 n => if 0 ≤ n ∧ n * bytes ≤ 140737488355328 then
        some (.own (s.p ++ [s.k]) n.toNat, s.add (.row true true elem sz (List.replicate n.toNat zero))) else none
    | _ => none
  | .mkf f caps => some (.func f (agetl caps e), s)
  | .mkm => some (.map (s.p ++ [s.k]), s.add (.map []))
  | .look kd ks zero ok m k => match m.ev e with
    | .map id => match hget s.heap id with
      | some (.map es) => match mfind kd ks es (k.ev e) with
        | some (some v) => some (if ok then .tuple [v, .bool true] else v, s)
        | some none => some (if ok then .tuple [zero, .bool false] else zero, s)
        | none => none
      | _ => none
    | _ => none
  | .mset kd ks m k v => match m.ev e with
    | .map id => match fz s.heap (v.ev e) with
      | some (x, H) => match hget H id with
        | some (.map es) => match mput kd ks es (k.ev e) x with
          | some es' => some (.undef, { s with heap := hset H id (.map es') })
          | none => none
        | _ => none
      | none => none
    | _ => none
  | .len ty x => match ty, x.ev e with
    | 0, .str b => some (.int .i64 b.size, s)
    | 1, .list _ rows => some (.int .i64 rows.length, s)
    | 1, .nils => some (.int .i64 0, s)
    | 1, .emp => some (.int .i64 0, s)
    | 1, .own id n => match hget s.heap id with
      | some (.row _ _ _ _ rows) => if rows.length = n then some (.int .i64 n, s) else none
      | _ => none
    | 2, .map id => match hget s.heap id with
      | some (.map es) => some (.int .i64 es.length, s)
      | _ => none
    | _, _ => none
  | .app elem sz bytes x y => match x.ev e with
    | .nils => match appG elem sz bytes (.own (s.p ++ [s.k]) 0) (y.ev e) (hadd s.heap (s.p ++ [s.k]) (.row true true elem sz [])) with
      | some (v, H) => some (v, { s with heap := H })
      | none => none
    | xv => match appG elem sz bytes xv (y.ev e) s.heap with
      | some (v, H) => some (v, { s with heap := H })
      | none => none
  | .mm mx xs => match agetl xs e with
    | .int k a :: r => (foldMin mx k a r).map fun v => (v, s)
    | _ => none
  | .call _ _ => none
  | .callv _ _ => none
  | .lst _ sz zero n parts => match partsOf e s.heap true parts with
    | some (l, _) => match setRows (List.replicate n zero) l with
      | some rows => if n = 0 then none else some (.list sz rows, s)
      | none => none
    | none => none

def argsOf (e : Env) : Heap → List (Bool × AX) → Option (List AV × Heap)
  | H, [] => some ([], H)
  | H, (byv, x) :: r =>
    match (if byv then fz H (x.ev e) else some (x.ev e, H)) with
    | some (v, H1) => match argsOf e H1 r with
      | some (l, H2) => some (v :: l, H2)
      | none => none
    | none => none

def putd (e : Env) (d : Option Nat) (v : AV) : Env :=
  match d with
  | some i => eset e i v
  | none => e

def wanted (e : Env) (g : Option (Nat × Bool)) : Option Bool :=
  match g with
  | none => some true
  | some (i, want) => match eget e i with
    | .bool b => some (b == want)
    | .tuple [] => some false
    | _ => none

/-- A call's function: its number, and 100000 times the way in which it is taken here (what it hands back). -/
abbrev CallF := Nat → Id → List AV → Heap → Option (AV × Heap)

def acallIns (call : CallF) (s : St) (f : Nat) (pre : List AV) (args : List (Bool × AX)) : Option (AV × St) :=
  match argsOf s.env s.heap args with
  | some (l, H) => match call f (s.p ++ [s.k]) (l ++ pre) H with
    | some (r, H') => some (r, { s with heap := H', k := s.k + 1 })
    | none => none
  | none => none

def astep (call : CallF) (i : AIns) (s : St) : Option (AV × St) :=
  match i with
  | .call f args => acallIns call s f [] args
  | .callv x args => match x.ev s.env with
    | .func f caps => if f < 100000 then acallIns call s f caps args else none
    | _ => none
  | i => ains i s

/-- Operations in the text's order; each is an event of its own. -/
def aregion (call : CallF) : List AIn → Nat → St → Option St
  | [], k, s => some { s with k := k }
  | i :: r, k, s => match wanted s.env i.g with
    | some true => match astep call i.i { s with k := k } with
      | some (v, s') => aregion call r (k + 1) { s' with env := putd s'.env i.d v }
      | none => none
    | some false => aregion call r (k + 1) { s with env := putd s.env i.d (.tuple []) }
    | none => none

/-! ### Likeness, told by a Bool -/
mutual
def beqA : AV → AV → Bool
  | .undef, .undef => true
  | .bool a, .bool b => a == b
  | .int k a, .int k' b => decide (k = k') && a == b
  | .str a, .str b => decide (a = b)
  | .nils, .nils => true
  | .list sz r, .list sz' r' => sz == sz' && beqLL r r'
  | .own i n, .own i' n' => i == i' && n == n'
  | .tl i n k, .tl i' n' k' => i == i' && n == n' && k == k'
  | .emp, .emp => true
  | .agg a, .agg b => beqL a b
  | .tuple a, .tuple b => beqL a b
  | .nilp, .nilp => true
  | .rp a, .rp b => beqL a b
  | .ref i n j k, .ref i' n' j' k' => i == i' && n == n' && j == j' && k == k'
  | .nilm, .nilm => true
  | .map i, .map i' => i == i'
  | .nilf, .nilf => true
  | .func f c, .func f' c' => f == f' && beqL c c'
  | .nili, .nili => true
  | .iface t v, .iface t' v' => t == t' && beqA v v'
  | _, _ => false
def beqL : List AV → List AV → Bool
  | [], [] => true
  | a :: r, b :: r' => beqA a b && beqL r r'
  | _, _ => false
def beqLL : List (List AV) → List (List AV) → Bool
  | [], [] => true
  | a :: r, b :: r' => beqL a b && beqLL r r'
  | _, _ => false
end
def beqE : List (AV × AV) → List (AV × AV) → Bool
  | [], [] => true
  | (a, b) :: r, (a', b') :: r' => beqA a a' && beqA b b' && beqE r r'
  | _, _ => false
def beqO : AObj → AObj → Bool
  | .row w f e s r, .row w' f' e' s' r' => w == w' && f == f' && e == e' && s == s' && beqLL r r'
  | .box c, .box c' => beqL c c'
  | .map e, .map e' => beqE e e'
  | _, _ => false
def beqF : Fr → Fr → Bool
  | [], [] => true
  | (i, o) :: r, (i', o') :: r' => i == i' && beqO o o' && beqF r r'
  | _, _ => false
def beqH : Heap → Heap → Bool
  | [], [] => true
  | f :: r, f' :: r' => beqF f f' && beqH r r'
  | _, _ => false

/-! ### A region that draws its order -/
/-- What an operation does to the heap: nothing (l); it reads an object (r); it lays a variable (n); it reads whatever it likes (c); it writes (x). -/
inductive Cl where
  | l
  | r (id : Id)
  | n (o : AObj)
  | c
  | x

def clsOf (ins : AIns) (e : Env) : Cl :=
  match ins with
  | .mov _ | .pick .. | .agg .. | .nilck _ | .bin .. | .bins .. | .un .. | .conv .. | .faddr .. | .fld .. | .sidx .. | .sslc .. | .ext .. | .mkf .. | .mm .. | .lst .. => .l
  | .load _ _ p => match p.ev e with
    | .rp _ => .l
    | .ref id _ _ _ => .r id
    | _ => .x
  | .iaddr _ x _ => match x.ev e with
    | .list _ _ => .l
    | .own id _ => .r id
    | _ => .x
  | .len _ x => match x.ev e with
    | .str _ | .list _ _ | .nils | .emp => .l
    | .own id _ | .map id => .r id
    | _ => .x
  | .slc _ x _ _ _ => match x.ev e with
    | .list _ _ | .nils | .emp => .l
    | _ => .x
  | .isnil _ x => match x.ev e with
    | .list _ _ | .nils | .emp => .l
    | .own id _ => .r id
    | _ => .x
  | .new zero => .n (.box zero)
  | .box x => match cellsOf (x.ev e) with
    | some cs => .n (.box cs)
    | none => .x
  | .call _ _ | .callv _ _ => .c
  | _ => .x

def idk (id : Id) : Nat := id.getLast?.getD 0
/-- A new object's place among others: by the event that made it. -/
def fins : Fr → Id → AObj → Fr
  | [], id, o => [(id, o)]
  | (i, x) :: r, id, o => if idk id < idk i then (i, x) :: fins r id o else (id, o) :: (i, x) :: r
def hins : Heap → Id → AObj → Heap
  | [], id, o => [[(id, o)]]
  | f :: r, id, o => fins f id o :: r

/-- An operation done: what it did, which operations stand ahead of it in every order, the name that a new object of its own has. -/
structure Rec where
  c : Cl
  pre : List Nat
  me : Id

/-- Must operation i (the first one) stand ahead of j in every order? -/
def needs (ri rj : Rec) : Bool :=
  match ri.c, rj.c with
  | .l, _ | _, .l => false
  | .r _, .r _ | .r _, .c | .c, .r _ | .n _, .n _ => false
  | .r id, .n _ => rj.me == id
  | .n _, .r id => ri.me == id
  | _, _ => true

def adstep (call : CallF) (i : AIn) (s : St) : Option (Cl × AV × St) :=
  match wanted s.env i.g with
  | some true => match astep call i.i s with
    | some (v, s') => match clsOf i.i s.env with
      | .n o => if (hget s.heap (s.p ++ [s.k])).isNone then some (.n o, v, { s with heap := hins s.heap (s.p ++ [s.k]) o }) else none
      | .c => if beqH s'.heap s.heap then some (.c, v, { s with heap := s.heap }) else some (.x, v, s')
      | c => some (c, v, s')
    | none => none
  | some false => some (.l, .tuple [], s)
  | none => none

def adrun (call : CallF) : List AIn → Nat → St → Option (St × List Rec)
  | [], k, s => some ({ s with k := k }, [])
  | i :: r, k, s => match adstep call i { s with k := k } with
    | some (c, v, s') => match adrun call r (k + 1) { s' with env := putd s'.env i.d v } with
      | some (s2, l) => some (s2, ⟨c, i.pre, s.p ++ [k]⟩ :: l)
      | none => none
    | none => none

def apart1 (i : Nat) (ri : Rec) : List Rec → Bool
  | [] => true
  | rj :: l => (!needs ri rj || rj.pre.contains i) && apart1 i ri l
def apart : Nat → List Rec → Bool
  | _, [] => true
  | i, r :: l => apart1 i r l && apart (i + 1) l

def adreg (call : CallF) (is : List AIn) (s : St) : Option St :=
  match adrun call is s.k s with
  | some (s', l) => if apart 0 l then some s' else none
  | none => none

/-! ### What an operation looks at -/
def axr : AX → List Nat
  | .t i => [i]
  | .k _ => []
def optr : Option AX → List Nat
  | some x => axr x
  | none => []
def reads : AIns → List Nat
  | .mov x => axr x
  | .anil _ _ => []
  | .pick c a b => axr c ++ axr a ++ axr b
  | .new _ => []
  | .box x => axr x
  | .agg _ parts => parts.flatMap fun p => axr p.2.2
  | .mkl _ _ _ _ parts _ => parts.flatMap fun p => axr p.2
  | .load _ _ p => axr p
  | .store _ _ p x => axr p ++ axr x
  | .nilck x => axr x
  | .bin _ _ x y => axr x ++ axr y
  | .bins _ _ x y => axr x ++ axr y
  | .un _ x => axr x
  | .conv _ x => axr x
  | .faddr _ x => axr x
  | .fld _ _ _ x => axr x
  | .iaddr _ x i => axr x ++ axr i
  | .sidx x i => axr x ++ axr i
  | .zap _ _ x => axr x
  | .tlz _ x i => axr x ++ axr i
  | .clr _ _ _ x => axr x
  | .isnil _ x => axr x
  | .slc _ x lo hi mx => axr x ++ optr lo ++ optr hi ++ optr mx
  | .sslc x lo hi => axr x ++ optr lo ++ optr hi
  | .ext x _ => axr x
  | .mks _ _ _ _ l => axr l
  | .mkf _ caps => caps.flatMap axr
  | .mkm => []
  | .look _ _ _ _ m k => axr m ++ axr k
  | .mset _ _ m k v => axr m ++ axr k ++ axr v
  | .len _ x => axr x
  | .app _ _ _ x y => axr x ++ axr y
  | .mm _ xs => xs.flatMap axr
  | .call _ args => args.flatMap fun p => axr p.2
  | .callv x args => axr x ++ args.flatMap fun p => axr p.2
  | .lst _ _ _ _ parts => parts.flatMap fun p => axr p.2
def readsG (i : AIn) : List Nat := (match i.g with | some (t, _) => [t] | none => []) ++ reads i.i

/-! ### Slots that meet -/
def clash (a b : AIn) : Bool :=
  (match a.d with | some d => (readsG b).contains d || b.d == some d | none => false) || (match b.d with | some d => (readsG a).contains d | none => false)
def slots1 (i : Nat) (a : AIn) : List AIn → Bool
  | [] => true
  | b :: r => (!clash a b || b.pre.contains i) && slots1 i a r
def slotsOK : Nat → List AIn → Bool
  | _, [] => true
  | i, a :: r => slots1 i a r && slotsOK (i + 1) r

def slots (e : Env) : List Nat := e.map (·.1)

def endr (mg : Bool) (H : Heap) : Heap := if mg then hmerge H else hpop H
/-- Rounds of a loop: round j's objects lie in a frame of their own, and are forgotten behind it. -/
def around (exec : ACode → St → Option (AExit × St)) (c : ACode) (q : Id) (sl : List Nat) (mg : Bool) : Nat → Nat → Env → Heap → Option (AExit × Env × Heap)
  | 0, _, _, _ => none
  | n + 1, j, e, H =>
    match exec c { env := e, heap := [] :: H, p := q ++ [j], k := 0 } with
    | some (.normal, s') => around exec c q sl mg n (j + 1) (ekeep s'.env sl) (endr mg s'.heap)
    | some (x, s') => some (x, s'.env, hmerge s'.heap)
    | none => none

def resOf (e : Env) (H : Heap) : List RV → Option (List AV)
  | [] => some []
  | .t i :: r => match resOf e H r with
    | some l => some (eget e i :: l)
    | none => none
  | .c i agg m :: r => match eget e i with
    | .ref id n ix j => match hget H id with
      | some o => match loadObj o n ix j m with
        | some cs => if cs.length = m then
            match ofCells agg cs, resOf e H r with
            | some v, some l => some (v :: l)
            | _, _ => none
          else none
        | none => none
      | none => none
    | _ => none

def one : List AV → AV
  | [v] => v
  | l => .tuple l

def params : Nat → List AV → Env
  | _, [] => []
  | i, v :: r => (i, v) :: params (i + 1) r

def abody (exec : ACode → St → Option (AExit × St)) (fn : AFn) (q : Id) (args : List AV) (H : Heap) : Option (AV × Heap) :=
  if args.length = fn.np then
    match exec fn.body { env := params 0 args, heap := [] :: H, p := q, k := 0 } with
    | some (.normal, s) | some (.ret, s) =>
      match resOf s.env s.heap fn.res with
      | some l =>
        if fn.keep = 0 then
          match fz s.heap (one l) with
          | some (v, H') => some (v, hpop H')
          | none => none
        else if fn.keep = 1 then
          match one l with
          | .own id n => match hget s.heap id with
            | some (.row wr flat e sz rows) => if rows.length = n then
                match hget (hpop s.heap) id with
                | some _ => some (.own id n, hpop s.heap)
                | none => some (.own id n, hadd (hpop s.heap) id (.row wr flat e sz rows))
              else none
            | _ => none
          | _ => none
        else some (one l, hmerge s.heap)
      | none => none
    | _ => none
  else none

/-- 'fork': a function that may ask whether its first argument is nil: where that is not known, both answers must lead to the same. -/
inductive AFun where
  | code (fn : AFn)
  | fork (fn : AFn)
  | ora (spec : Id → List AV → Heap → Option (AV × Heap))

abbrev FT := Nat → Option AFun

mutual
def aexec (ft : FT) : Nat → ACode → St → Option (AExit × St)
  | 0, _, _ => none
  | n + 1, c, s =>
    match c with
    | .skip => some (.normal, s)
    | .reg is drop => match aregion (acall ft n) is s.k s with
      | some s' => some (.normal, { s' with env := edrop s'.env drop })
      | none => none
    | .dreg is drop => match adreg (acall ft n) is s with
      | some s' => some (.normal, { s' with env := edrop s'.env drop })
      | none => none
    | .seq a b => match aexec ft n a s with
      | some (.normal, s') => aexec ft n b s'
      | r => r
    | .cond c drop a b => match c.ev s.env with
      | .bool t => aexec ft n (if t then a else b) { s with env := edrop s.env drop }
      | _ => none
    | .block id c => match aexec ft n c s with
      | some (.exit id', s') => if id' = id then some (.normal, { s' with env := ekeep s'.env (slots s.env) }) else some (.exit id', s')
      | r => r
    | .loop mg c => match around (aexec ft n) c (s.p ++ [s.k]) (slots s.env) mg n 0 s.env s.heap with
      | some (x, e, H) => some (x, { env := e, heap := H, p := s.p, k := s.k + 1 })
      | none => none
    | .exit id => some (.exit id, s)
    | .ret => some (.ret, s)
    | .stuck => none
def acall (ft : FT) : Nat → CallF
  | 0, _, _, _, _ => none
  | n + 1, f, q, args, H =>
    match ft f with
    | some (.code fn) => abody (aexec ft n) fn q args H
    | some (.fork fn) => match args with
      | .list _ [] :: r => match abody (aexec ft n) fn q (.nils :: r) H, abody (aexec ft n) fn q (.emp :: r) H with
        | some (v, H'), some (v2, H2) => if beqA v2 v && beqH H2 H' then some (v, H') else none
        | _, _ => none
      | _ => abody (aexec ft n) fn q args H
    | some (.ora spec) => spec q args H
    | none => none
end

end Go.Proofs.Abs

set_option linter.all false
set_option linter.constructorNameAsVariable false
set_option linter.defProp false
set_option linter.unusedVariables false
set_option linter.unusedSimpArgs false
namespace Go.Proofs.Abs

/-- A world, seen through an abstract heap: where each object lies; which names may still be given. -/
structure Ctx where
  H : Heap
  φ : Id → Value
  w : World
  Av : Id → Prop
  /-- Cells that others may write, behind this. -/
  X : Nat → Nat → Prop

def blk : Value → Option Nat
  | .slice (some a) _ _ => some a.block
  | .pointer (some a) => some a.block
  | .map (some g) => some g
  | _ => none

def mutAt : AObj → Nat → Prop
  | .row wr _ _ sz rows, off => wr = true ∨ rows.length * sz ≤ off
  | .box _, _ => True
  | .map _, _ => True

def cellsz : AObj → Nat
  | .row _ _ _ sz _ => sz
  | _ => 0

def okind : AObj → Nat × Nat
  | .row _ _ _ sz _ => (0, sz)
  | .box _ => (1, 0)
  | .map _ => (2, 0)
theorem cellsz_of {o o' : AObj} (h : okind o' = okind o) : cellsz o' = cellsz o := by cases o <;> cases o' <;> simp_all [okind, cellsz]

/-- A block of an object; a cell that may still be written. -/
def Obl (C : Ctx) (g : Nat) : Prop := ∃ id o, hget C.H id = some o ∧ blk (C.φ id) = some g
def Mut0 (C : Ctx) (g off : Nat) : Prop := ∃ id o, hget C.H id = some o ∧ blk (C.φ id) = some g ∧ mutAt o off
def Mut (C : Ctx) (g off : Nat) : Prop := C.X g off ∨ Mut0 C g off
/-- A cell that holds a value for good. -/
def Fro (C : Ctx) (ad : Addr) (j : Nat) (v : Value) : Prop := C.w.cell? ⟨ad.block, ad.off + j, none⟩ = some v ∧ ¬ Mut C ad.block (ad.off + j)

inductive Rep (C : Ctx) : AV → Value → Prop
  | undef (v : Value) : Rep C .undef v
  | bool (b : Bool) : Rep C (.bool b) (.bool b)
  | int (k : IntKind) (n : Int) : Rep C (.int k n) (.int k n)
  | str (s : ByteArray) : Rep C (.str s) (.string s)
  | nils : Rep C .nils (.slice none 0 0)
  | list (sz : Nat) (rows : List (List AV)) (base : Option Addr) (cap : Nat) (vals : Nat → Value) (h0 : 0 < sz) (hc : rows.length ≤ cap) (hz : base = none → cap = 0) (hr : ∀ r ∈ rows, r.length = sz)
      (hb : rows ≠ [] → ∃ ad, base = some ad ∧ ad.spot = none) (hf : ∀ (j : Nat) (av : AV), rows.flatten[j]? = some av → isCell av = true ∧ ∀ ad, base = some ad → Fro C ad j (vals j))
      (hv : ∀ (j : Nat) (av : AV), rows.flatten[j]? = some av → Rep C av (vals j)) : Rep C (.list sz rows) (.slice base rows.length cap)
  | own (id : Id) (n : Nat) (v : Value) (ha : ¬ C.Av id) (hs : ∃ a l c, v = .slice a l c) (ho : ∀ o, hget C.H id = some o → n ≤ asize o ∧ (asize o = n → v = C.φ id ∨ (n = 0 ∧ C.φ id = .slice none 0 0 ∧ ∃ b, v = .slice b 0 0))) : Rep C (.own id n) v
  | emp (ad : Addr) (cap : Nat) : Rep C .emp (.slice (some ad) 0 cap)
  | tl (id : Id) (n i : Nat) (v : Value) (ha : ¬ C.Av id) (hs : ∃ a l c, v = .slice a l c)
      (ho : ∀ o, hget C.H id = some o → n ≤ asize o ∧ (asize o = n → ∃ g cap, C.φ id = .slice (some ⟨g, 0, none⟩) n cap ∧ v = .slice (some ⟨g, i * cellsz o, none⟩) (n - i) (cap - i))) : Rep C (.tl id n i) v
  | agg (cs : List AV) (vs : List Value) (hl : cs.length = vs.length) (hc : ∀ (j : Nat) (av : AV), cs[j]? = some av → isCell av = true) (hv : ∀ (j : Nat) av v, cs[j]? = some av → vs[j]? = some v → Rep C av v) : Rep C (.agg cs) (.agg vs.toArray)
  | tuple (cs : List AV) (vs : List Value) (hl : cs.length = vs.length) (hv : ∀ (j : Nat) av v, cs[j]? = some av → vs[j]? = some v → Rep C av v) : Rep C (.tuple cs) (.tuple vs.toArray)
  | nilp : Rep C .nilp (.pointer none)
  | rp (cs : List AV) (ad : Addr) (vals : Nat → Value) (hs : ad.spot = none) (hf : ∀ (j : Nat) (av : AV), cs[j]? = some av → isCell av = true ∧ Fro C ad j (vals j)) (hv : ∀ (j : Nat) (av : AV), cs[j]? = some av → Rep C av (vals j)) : Rep C (.rp cs) (.pointer (some ad))
  | ref (id : Id) (n i j : Nat) (v : Value) (ha : ¬ C.Av id) (hs : ∃ a, v = .pointer (some a))
      (ho : ∀ o, hget C.H id = some o → n ≤ asize o ∧ (asize o = n → ∃ g, blk (C.φ id) = some g ∧ v = .pointer (some ⟨g, i * cellsz o + j, none⟩))) : Rep C (.ref id n i j) v
  | nilm : Rep C .nilm (.map none)
  | map (id : Id) (v : Value) (ha : ¬ C.Av id) (hs : ∃ r, v = .map (some r)) (ho : ∀ o, hget C.H id = some o → okind o = (2, 0) → v = C.φ id) : Rep C (.map id) v
  | nilf : Rep C .nilf .nilFunc
  | func (f : Nat) (caps : List AV) (vs : List Value) (hl : caps.length = vs.length) (hv : ∀ (j : Nat) av v, caps[j]? = some av → vs[j]? = some v → Rep C av v) : Rep C (.func f caps) (.func (.func f) #[] vs.toArray)
  | nili : Rep C .nili .nilIface
  | iface (t : Nat) (av : AV) (v : Value) (hv : Rep C av v) : Rep C (.iface t av) (.iface t v)

/-- Pair by pair. -/
def RepL (C : Ctx) (cs : List AV) (vs : List Value) : Prop := cs.length = vs.length ∧ ∀ (j : Nat) av v, cs[j]? = some av → vs[j]? = some v → Rep C av v

def Cells (l : List AV) : Prop := ∀ (j : Nat) av, l[j]? = some av → isCell av = true

def ObjRep (C : Ctx) (id : Id) : AObj → Prop
  | .row _ _ elem sz rows => 0 < sz ∧ (∀ r ∈ rows, r.length = sz) ∧ Cells rows.flatten ∧ ∃ xs, C.w.ownsRow 0 elem sz (C.φ id) rows.length xs ∧ RepL C rows.flatten xs
  | .box cells => Cells cells ∧ ∃ g cs e, C.φ id = .pointer (some ⟨g, 0, none⟩) ∧ C.w.heap[g]? = some (.cells cs e (0, 0)) ∧ RepL C cells cs.toList
  | .map es => ∃ g ents clock, C.φ id = .map (some g) ∧ C.w.heap[g]? = some (.map ents clock) ∧ RepL C (es.map (·.1)) (ents.toList.map (·.key)) ∧ RepL C (es.map (·.2)) (ents.toList.map (·.val))

/-- No name twice. -/
def HND : Heap → Prop
  | [] => True
  | f :: r => (∀ id o, fget f id = some o → hget r id = none) ∧ HND r

structure HRep (C : Ctx) : Prop where
  nd : HND C.H
  av : ∀ id o, hget C.H id = some o → ¬ C.Av id
  obj : ∀ id o, hget C.H id = some o → ObjRep C id o
  inj : ∀ id id' o o' g, hget C.H id = some o → hget C.H id' = some o' → blk (C.φ id) = some g → blk (C.φ id') = some g → id = id'
  own : ∀ id o g off, hget C.H id = some o → blk (C.φ id) = some g → ¬ C.X g off
  xlt : ∀ g off, C.X g off → g < C.w.heap.size

structure Ext (C C' : Ctx) : Prop where
  size : C.w.heap.size ≤ C'.w.heap.size
  tape : C'.w.tape = C.w.tape
  os : C'.w.os = C.w.os
  output : C'.w.output = C.w.output
  block : ∀ k, k < C.w.heap.size → ¬ Obl C k → C'.w.heap[k]? = C.w.heap[k]?
  cell : ∀ k off, k < C.w.heap.size → ¬ Mut C k off → C'.w.cell? ⟨k, off, none⟩ = C.w.cell? ⟨k, off, none⟩
  muts : ∀ k off, k < C.w.heap.size → Mut C' k off → Mut C k off
  obl : ∀ k, k < C.w.heap.size → Obl C' k → Obl C k
  av : ∀ id, C'.Av id → C.Av id
  x : C'.X = C.X
  old : ∀ id o', ¬ C.Av id → hget C'.H id = some o' → ∃ o, hget C.H id = some o ∧ okind o' = okind o ∧ asize o ≤ asize o' ∧ (asize o = asize o' → C'.φ id = C.φ id)

theorem cell_lt {w : World} {k off : Nat} {v : Value} (h : w.cell? ⟨k, off, none⟩ = some v) : k < w.heap.size := by
  unfold World.cell? at h
  rcases Nat.lt_or_ge k w.heap.size with hk | hk
  · exact hk
  · rw [Array.getElem?_eq_none hk] at h; simp at h

theorem Fro.ext {C C' : Ctx} (h : Ext C C') {ad : Addr} {j : Nat} {v : Value} (hf : Fro C ad j v) : Fro C' ad j v := by
  have hlt := cell_lt hf.1
  exact ⟨(h.cell _ _ hlt hf.2).trans hf.1, fun hm => hf.2 (h.muts _ _ hlt hm)⟩

theorem Rep.ext {C C' : Ctx} (h : Ext C C') {av : AV} {v : Value} (hr : Rep C av v) : Rep C' av v := by
  induction hr with
  | undef v => exact .undef v
  | bool b => exact .bool b
  | int k n => exact .int k n
  | str s => exact .str s
  | nils => exact .nils
  | emp ad cap => exact .emp ad cap
  | tl id n i v ha hs ho =>
    refine .tl id n i v (fun a => ha (h.av _ a)) hs fun o' e' => ?_
    obtain ⟨o, e, hk, hle, hφ⟩ := h.old id o' ha e'
    obtain ⟨h1, h2⟩ := ho o e
    refine ⟨Nat.le_trans h1 hle, fun he => ?_⟩
    obtain ⟨g, cap, hg, hv⟩ := h2 (by omega)
    exact ⟨g, cap, by rw [hφ (by omega)]; exact hg, by rw [cellsz_of hk]; exact hv⟩
  | list sz rows base cap vals h0 hc hz hr hb hf hv ih => exact .list sz rows base cap vals h0 hc hz hr hb (fun j av e => ⟨(hf j av e).1, fun ad ea => ((hf j av e).2 ad ea).ext h⟩) ih
  | own id n v ha hs ho =>
    refine .own id n v (fun a => ha (h.av _ a)) hs fun o' e' => ?_
    obtain ⟨o, e, _, hle, hφ⟩ := h.old id o' ha e'
    obtain ⟨h1, h2⟩ := ho o e
    exact ⟨Nat.le_trans h1 hle, fun he => by
      have : asize o = n := by omega
      rw [hφ (by omega)]; exact h2 this⟩
  | agg cs vs hl hc hv ih => exact .agg cs vs hl hc ih
  | tuple cs vs hl hv ih => exact .tuple cs vs hl ih
  | nilp => exact .nilp
  | rp cs ad vals hs hf hv ih => exact .rp cs ad vals hs (fun j av e => ⟨(hf j av e).1, (hf j av e).2.ext h⟩) ih
  | ref id n i j v ha hs ho =>
    refine .ref id n i j v (fun a => ha (h.av _ a)) hs fun o' e' => ?_
    obtain ⟨o, e, hk, hle, hφ⟩ := h.old id o' ha e'
    obtain ⟨h1, h2⟩ := ho o e
    refine ⟨Nat.le_trans h1 hle, fun he => ?_⟩
    obtain ⟨g, hg, hv⟩ := h2 (by omega)
    exact ⟨g, by rw [hφ (by omega)]; exact hg, by rw [cellsz_of hk]; exact hv⟩
  | nilm => exact .nilm
  | map id v ha hs ho =>
    refine .map id v (fun a => ha (h.av _ a)) hs fun o' e' k' => ?_
    obtain ⟨o, e, hk, hle, hφ⟩ := h.old id o' ha e'
    have k0 : okind o = (2, 0) := by rw [← hk]; exact k'
    have z : ∀ x : AObj, okind x = (2, 0) → asize x = 0 := by
      intro x hx
      cases x with
      | row => simp [okind] at hx
      | box => simp [okind] at hx
      | map => rfl
    rw [hφ (by rw [z o k0, z o' k'])]
    exact ho o e k0
  | nilf => exact .nilf
  | func f caps vs hl hv ih => exact .func f caps vs hl ih
  | nili => exact .nili
  | iface t av v hv ih => exact .iface t av v ih

theorem Ext.refl (C : Ctx) : Ext C C := ⟨Nat.le_refl _, rfl, rfl, rfl, fun _ _ _ => rfl, fun _ _ _ _ => rfl, fun _ _ _ h => h, fun _ _ h => h, fun _ h => h, rfl, fun _ o' _ h => ⟨o', h, rfl, Nat.le_refl _, fun _ => rfl⟩⟩

theorem Ext.trans {A B C : Ctx} (h : Ext A B) (k : Ext B C) : Ext A C where
  size := Nat.le_trans h.size k.size
  tape := k.tape.trans h.tape
  os := k.os.trans h.os
  output := k.output.trans h.output
  block := fun i hi ho => (k.block i (Nat.lt_of_lt_of_le hi h.size) (fun hb => ho (h.obl i hi hb))).trans (h.block i hi ho)
  cell := fun i off hi hm => (k.cell i off (Nat.lt_of_lt_of_le hi h.size) (fun hb => hm (h.muts i off hi hb))).trans (h.cell i off hi hm)
  muts := fun i off hi hm => h.muts i off hi (k.muts i off (Nat.lt_of_lt_of_le hi h.size) hm)
  obl := fun i hi hm => h.obl i hi (k.obl i (Nat.lt_of_lt_of_le hi h.size) hm)
  av := fun i hi => h.av i (k.av i hi)
  x := k.x.trans h.x
  old := fun id o2 ha e2 => by
    obtain ⟨o1, e1, k1, l1, f1⟩ := k.old id o2 (fun x => ha (h.av _ x)) e2
    obtain ⟨o0, e0, k0, l0, f0⟩ := h.old id o1 ha e1
    exact ⟨o0, e0, k1.trans k0, Nat.le_trans l0 l1, fun he => (f1 (by omega)).trans (f0 (by omega))⟩

theorem RepL.mono {C C' : Ctx} (h : ∀ av v, Rep C av v → Rep C' av v) {cs : List AV} {vs : List Value} (hr : RepL C cs vs) : RepL C' cs vs := ⟨hr.1, fun j av v e e' => h _ _ (hr.2 j av v e e')⟩

theorem ownsRow_step {w w' : World} {e sz n : Nat} {v : Value} {xs : List Value} (h : w.ownsRow 0 e sz v n xs) (hb : ∀ g, blk v = some g → w'.heap[g]? = w.heap[g]?) : w'.ownsRow 0 e sz v n xs := by
  obtain ⟨h1, h2⟩ := h
  refine ⟨h1, ?_⟩
  rcases h2 with h2 | ⟨g, cap, cur, hv, hg, hh, r⟩
  · exact .inl h2
  · exact .inr ⟨g, cap, cur, hv, hg, by rw [hb g (by rw [hv]; rfl)]; exact hh, r⟩

theorem ObjRep.step {C C' : Ctx} {id : Id} {o : AObj} (h : ObjRep C id o) (hφ : C'.φ id = C.φ id) (hb : ∀ g, blk (C.φ id) = some g → C'.w.heap[g]? = C.w.heap[g]?) (hr : ∀ av v, Rep C av v → Rep C' av v) : ObjRep C' id o := by
  cases o with
  | row wr fl e sz rows =>
    obtain ⟨h0, h1, h2, xs, h3, h4⟩ := h
    exact ⟨h0, h1, h2, xs, by rw [hφ]; exact ownsRow_step h3 hb, h4.mono hr⟩
  | box cells =>
    obtain ⟨h0, g, cs, e, h1, h2, h3⟩ := h
    exact ⟨h0, g, cs, e, hφ.trans h1, (hb g (by rw [h1]; rfl)).trans h2, h3.mono hr⟩
  | map es =>
    obtain ⟨g, ents, clock, h1, h2, h3, h4⟩ := h
    exact ⟨g, ents, clock, hφ.trans h1, (hb g (by rw [h1]; rfl)).trans h2, h3.mono hr, h4.mono hr⟩

theorem fget_fset (f : Fr) (id id' : Id) (x : AObj) : fget (fset f id x) id' = if id = id' ∧ (fget f id).isSome then some x else fget f id' := by
  induction f with
  | nil => simp [fset, fget]
  | cons p f ih =>
    obtain ⟨i, o⟩ := p
    by_cases h : i = id
    · subst h
      by_cases h2 : i = id'
      · subst h2; simp [fset, fget]
      · simp [fset, fget, h2]
    · simp only [fset, if_neg h, fget, ih]
      by_cases h2 : i = id'
      · subst h2
        simp [Ne.symm h]
      · simp [h2]

theorem hget_hset (H : Heap) (id id' : Id) (x : AObj) : hget (hset H id x) id' = if id = id' ∧ (hget H id).isSome then some x else hget H id' := by
  induction H with
  | nil => simp [hset, hget]
  | cons f r ih =>
    have hd : fget f id = none ∨ ∃ o, fget f id = some o := by cases fget f id <;> simp
    rcases hd with hf | ⟨o, hf⟩
    · simp only [hset, hget, hf, ih]
      by_cases h : id = id'
      · subst h; simp [hf]
      · simp [h]
    · simp only [hset, hget, hf, fget_fset]
      by_cases h : id = id'
      · subst h; simp
      · simp [h]

theorem hget_hadd (H : Heap) (id id' : Id) (x : AObj) : hget (hadd H id x) id' = if id = id' then some x else hget H id' := by
  cases H with
  | nil => by_cases h : id = id' <;> simp [hadd, hget, fget, h]
  | cons f r =>
    simp only [hadd, hget, fget]
    by_cases h : id = id' <;> simp [h]

theorem HND.hset {H : Heap} (h : HND H) (id : Id) (x : AObj) : HND (hset H id x) := by
  induction H with
  | nil => trivial
  | cons f r ih =>
    have hd : fget f id = none ∨ ∃ o, fget f id = some o := by cases fget f id <;> simp
    rcases hd.symm with ⟨o, hf⟩ | hf
    · simp only [Abs.hset, hf]
      refine ⟨fun id' o' e => ?_, h.2⟩
      rw [fget_fset] at e
      split at e
      · rename_i hc; rw [← hc.1]; exact h.1 id o hf
      · exact h.1 id' o' e
    · simp only [Abs.hset, hf]
      refine ⟨fun id' o' e => ?_, ih h.2⟩
      have hn := h.1 id' o' e
      rw [hget_hset]
      split
      · rename_i hc
        rw [← hc.1, hf] at e
        cases e
      · exact hn

theorem HND.hadd {H : Heap} (h : HND H) (id : Id) (x : AObj) (hn : hget H id = none) : HND (hadd H id x) := by
  cases H with
  | nil => exact ⟨fun _ _ _ => rfl, trivial⟩
  | cons f r =>
    refine ⟨fun id' o' e => ?_, h.2⟩
    simp only [fget] at e
    simp only [hget] at hn
    split at e
    · rename_i hc
      subst hc
      split at hn
      · cases hn
      · exact hn
    · exact h.1 id' o' e

theorem HRep.none {C : Ctx} (h : HRep C) {id : Id} (ha : C.Av id) : hget C.H id = none := by
  cases e : hget C.H id with
  | none => rfl
  | some o => exact absurd ha (h.av id o e)

/-- What is seen of the world when less is told of it: fewer objects, fewer names to give. -/
theorem Ext.less {C : Ctx} {H : Heap} {A : Id → Prop} (hH : ∀ id o, hget H id = some o → hget C.H id = some o) (hA : ∀ id, A id → C.Av id) : Ext C { C with H := H, Av := A } :=
  ⟨Nat.le_refl _, rfl, rfl, rfl, fun _ _ _ => rfl, fun _ _ _ _ => rfl, fun _ _ _ h => h.imp (fun h => h) fun ⟨id, o, e, r⟩ => ⟨id, o, hH _ _ e, r⟩, fun _ _ ⟨id, o, e, r⟩ => ⟨id, o, hH _ _ e, r⟩, hA, rfl, fun id o' _ e => ⟨o', hH _ _ e, rfl, Nat.le_refl _, fun _ => rfl⟩⟩

theorem HRep.less {C : Ctx} (h : HRep C) {H : Heap} {A : Id → Prop} (hn : HND H) (hH : ∀ id o, hget H id = some o → hget C.H id = some o) (hA : ∀ id, A id → C.Av id) : HRep { C with H := H, Av := A } := by
  have he := Ext.less (C := C) hH hA
  exact ⟨hn, fun id o e a => h.av id o (hH _ _ e) (hA _ a), fun id o e => (h.obj id o (hH _ _ e)).step rfl (fun _ _ => rfl) (fun _ _ r => r.ext he), fun id id' o o' g e e' => h.inj id id' o o' g (hH _ _ e) (hH _ _ e'), fun id o g off e => h.own id o g off (hH _ _ e), h.xlt⟩

/-- A draw. -/
theorem Ext.drawn (C : Ctx) (d : Nat) : Ext C { C with w := { C.w with drawn := d } } :=
  ⟨Nat.le_refl _, rfl, rfl, rfl, fun _ _ _ => rfl, fun _ _ _ _ => rfl, fun _ _ _ h => h, fun _ _ h => h, fun _ h => h, rfl, fun _ o' _ h => ⟨o', h, rfl, Nat.le_refl _, fun _ => rfl⟩⟩
theorem HRep.drawn {C : Ctx} (h : HRep C) (d : Nat) : HRep { C with w := { C.w with drawn := d } } :=
  ⟨h.nd, h.av, fun id o e => (h.obj id o e).step rfl (fun _ _ => rfl) (fun _ _ r => r.ext (Ext.drawn C d)), h.inj, h.own, h.xlt⟩

open Classical in
/-- C with one object more (or another one) under a name. -/
noncomputable def Ctx.put (C : Ctx) (H : Heap) (id : Id) (v : Value) (w : World) (A : Id → Prop) : Ctx := ⟨H, fun i => if i = id then v else C.φ i, w, A, C.X⟩

theorem put_self (C : Ctx) (H : Heap) (id : Id) (v : Value) (w : World) (A : Id → Prop) : (C.put H id v w A).φ id = v := by simp [Ctx.put]
theorem put_other (C : Ctx) (H : Heap) (id : Id) (v : Value) (w : World) (A : Id → Prop) {i : Id} (h : i ≠ id) : (C.put H id v w A).φ i = C.φ i := by simp [Ctx.put, h]

section
variable {C : Ctx} {id : Id} {o : AObj} {v : Value} {w : World} {A : Id → Prop}

theorem Ext.new (h : HRep C) (ha : C.Av id) (hA : ∀ i, A i → C.Av i) (hsz : C.w.heap.size ≤ w.heap.size) (hold : ∀ k, k < C.w.heap.size → w.heap[k]? = C.w.heap[k]?)
    (ht : w.tape = C.w.tape) (hos : w.os = C.w.os) (hout : w.output = C.w.output) (hb : ∀ g, blk v = some g → C.w.heap.size ≤ g) : Ext C (C.put (hadd C.H id o) id v w A) where
  size := hsz
  tape := ht
  os := hos
  output := hout
  block := fun k hk _ => hold k hk
  cell := fun k off hk _ => World.cell?_of_block (hold k hk)
  muts := fun k off hk h => h.imp (fun h => h) fun ⟨i, o', e, hb', hm⟩ => by
    have e' : hget (hadd C.H id o) i = some o' := e
    rw [hget_hadd] at e'
    by_cases hi : i = id
    · subst hi
      rw [put_self] at hb'
      have := hb k hb'
      omega
    · rw [if_neg (Ne.symm hi)] at e'
      rw [put_other _ _ _ _ _ _ hi] at hb'
      exact ⟨i, o', e', hb', hm⟩
  obl := fun k hk ⟨i, o', e, hb'⟩ => by
    have e' : hget (hadd C.H id o) i = some o' := e
    rw [hget_hadd] at e'
    by_cases hi : i = id
    · subst hi
      rw [put_self] at hb'
      have := hb k hb'
      omega
    · rw [if_neg (Ne.symm hi)] at e'
      rw [put_other _ _ _ _ _ _ hi] at hb'
      exact ⟨i, o', e', hb'⟩
  av := hA
  x := rfl
  old := fun i o' hna e => by
    have e' : hget (hadd C.H id o) i = some o' := e
    rw [hget_hadd] at e'
    by_cases hi : i = id
    · subst hi; exact absurd ha hna
    · rw [if_neg (Ne.symm hi)] at e'
      exact ⟨o', e', rfl, Nat.le_refl _, fun _ => put_other _ _ _ _ _ _ hi⟩

theorem obj_lt {C : Ctx} {i : Id} {o : AObj} (h : ObjRep C i o) {g : Nat} (hg : blk (C.φ i) = some g) : g < C.w.heap.size := by
  cases o with
  | row wr fl e sz rows =>
    obtain ⟨_, _, _, xs, h3, _⟩ := h
    rcases h3.2 with ⟨h2, _⟩ | ⟨g', cap, cur, hv, _, hh, _⟩
    · rw [h2] at hg; cases hg
    · rw [hv] at hg
      have : g' = g := by simpa [blk] using hg
      subst this
      exact (Array.getElem?_eq_some_iff.1 hh).1
  | box cells =>
    obtain ⟨_, g', cs, e, h1, h2, _⟩ := h
    rw [h1] at hg
    have : g' = g := by simpa [blk] using hg
    subst this
    exact (Array.getElem?_eq_some_iff.1 h2).1
  | map es =>
    obtain ⟨g', ents, clock, h1, h2, _⟩ := h
    rw [h1] at hg
    have : g' = g := by simpa [blk] using hg
    subst this
    exact (Array.getElem?_eq_some_iff.1 h2).1

theorem HRep.new (h : HRep C) (ha : C.Av id) (hA : ∀ i, A i → C.Av i) (hid : ¬ A id) (hsz : C.w.heap.size ≤ w.heap.size) (hold : ∀ k, k < C.w.heap.size → w.heap[k]? = C.w.heap[k]?)
    (ht : w.tape = C.w.tape) (hos : w.os = C.w.os) (hout : w.output = C.w.output) (hb : ∀ g, blk v = some g → C.w.heap.size ≤ g)
    (ho : Ext C (C.put (hadd C.H id o) id v w A) → ObjRep (C.put (hadd C.H id o) id v w A) id o) : HRep (C.put (hadd C.H id o) id v w A) := by
  have he := Ext.new (o := o) (v := v) h ha hA hsz hold ht hos hout hb
  have hg : ∀ i, hget (C.put (hadd C.H id o) id v w A).H i = if id = i then some o else hget C.H i := fun i => hget_hadd _ _ _ _
  refine ⟨h.nd.hadd _ _ (h.none ha), fun i o' e a => ?_, fun i o' e => ?_, fun i i' o1 o2 g e1 e2 b1 b2 => ?_, fun i o1 g off e1 b1 => ?_, fun g off hx => Nat.lt_of_lt_of_le (h.xlt g off hx) hsz⟩
  · rw [hg] at e
    split at e
    · rename_i hc; subst hc; exact hid a
    · exact h.av i o' e (hA i a)
  · rw [hg] at e
    split at e
    · rename_i hc
      subst hc
      injection e with e
      subst e
      exact ho he
    · rename_i hc
      refine (h.obj i o' e).step (put_other _ _ _ _ _ _ (Ne.symm hc)) (fun g hg' => ?_) (fun _ _ r => r.ext he)
      exact hold g (obj_lt (h.obj i o' e) hg')
  · rw [hg] at e1 e2
    split at e1 <;> split at e2
    · rename_i c1 c2; rw [← c1, ← c2]
    · rename_i c1 c2
      subst c1
      rw [put_self] at b1
      rw [put_other _ _ _ _ _ _ (Ne.symm c2)] at b2
      have := hb g b1
      have := obj_lt (h.obj i' o2 e2) b2
      omega
    · rename_i c1 c2
      subst c2
      rw [put_self] at b2
      rw [put_other _ _ _ _ _ _ (Ne.symm c1)] at b1
      have := hb g b2
      have := obj_lt (h.obj i o1 e1) b1
      omega
    · rename_i c1 c2
      rw [put_other _ _ _ _ _ _ (Ne.symm c1)] at b1
      rw [put_other _ _ _ _ _ _ (Ne.symm c2)] at b2
      exact h.inj i i' o1 o2 g e1 e2 b1 b2
  · rw [hg] at e1
    split at e1
    · rename_i c1
      subst c1
      rw [put_self] at b1
      intro hx
      have := hb g b1
      have := h.xlt g off hx
      omega
    · rename_i c1
      rw [put_other _ _ _ _ _ _ (Ne.symm c1)] at b1
      exact h.own i o1 g off e1 b1
end

section
variable {C : Ctx} {id : Id} {o o' : AObj} {v : Value} {w : World}

/-- What an object's change asks of the world. -/
structure SetOk (C : Ctx) (id : Id) (o o' : AObj) (v : Value) (w : World) : Prop where
  at_ : hget C.H id = some o
  kind : okind o' = okind o
  size_ : asize o ≤ asize o'
  hdr : asize o = asize o' → v = C.φ id
  size : C.w.heap.size ≤ w.heap.size
  tape : w.tape = C.w.tape
  os : w.os = C.w.os
  output : w.output = C.w.output
  other : ∀ k, k < C.w.heap.size → some k ≠ blk (C.φ id) → w.heap[k]? = C.w.heap[k]?
  cell : ∀ g off, blk (C.φ id) = some g → ¬ mutAt o off → w.cell? ⟨g, off, none⟩ = C.w.cell? ⟨g, off, none⟩
  place : (blk v = blk (C.φ id) ∧ ∀ off, mutAt o' off → mutAt o off) ∨ ∀ g, blk v = some g → C.w.heap.size ≤ g

theorem hset_some (h : hget C.H id = some o) (i : Id) : hget (hset C.H id o') i = if id = i then some o' else hget C.H i := by
  rw [hget_hset]
  by_cases hi : id = i
  · subst hi; simp [h]
  · simp [hi]

theorem Ext.set (s : SetOk C id o o' v w) : Ext C (C.put (hset C.H id o') id v w C.Av) where
  size := s.size
  tape := s.tape
  os := s.os
  output := s.output
  block := fun k hk ho => s.other k hk fun e => ho ⟨id, o, s.at_, e.symm⟩
  cell := fun k off hk hm => by
    by_cases e : some k = blk (C.φ id)
    · exact s.cell k off e.symm fun h => hm (.inr ⟨id, o, s.at_, e.symm, h⟩)
    · exact World.cell?_of_block (s.other k hk e)
  muts := fun k off hk h => h.imp (fun h => h) fun ⟨i, o2, e, hb, hm⟩ => by
    have e' : hget (hset C.H id o') i = some o2 := e
    rw [hset_some s.at_] at e'
    by_cases hi : i = id
    · subst hi
      rw [if_pos rfl] at e'
      injection e' with e'
      subst e'
      rw [put_self] at hb
      rcases s.place with ⟨p1, p2⟩ | p
      · exact ⟨i, o, s.at_, p1 ▸ hb, p2 _ hm⟩
      · have := p k hb; omega
    · rw [if_neg (Ne.symm hi)] at e'
      rw [put_other _ _ _ _ _ _ hi] at hb
      exact ⟨i, o2, e', hb, hm⟩
  obl := fun k hk ⟨i, o2, e, hb⟩ => by
    have e' : hget (hset C.H id o') i = some o2 := e
    rw [hset_some s.at_] at e'
    by_cases hi : i = id
    · subst hi
      rw [put_self] at hb
      rcases s.place with ⟨p1, p2⟩ | p
      · exact ⟨i, o, s.at_, p1 ▸ hb⟩
      · have := p k hb; omega
    · rw [if_neg (Ne.symm hi)] at e'
      rw [put_other _ _ _ _ _ _ hi] at hb
      exact ⟨i, o2, e', hb⟩
  av := fun _ h => h
  x := rfl
  old := fun i o2 hna e => by
    have e' : hget (hset C.H id o') i = some o2 := e
    rw [hset_some s.at_] at e'
    by_cases hi : i = id
    · subst hi
      rw [if_pos rfl] at e'
      injection e' with e'
      subst e'
      exact ⟨o, s.at_, s.kind, s.size_, fun h => (put_self _ _ _ _ _ _).trans (s.hdr h)⟩
    · rw [if_neg (Ne.symm hi)] at e'
      exact ⟨o2, e', rfl, Nat.le_refl _, fun _ => put_other _ _ _ _ _ _ hi⟩

theorem HRep.set (h : HRep C) (s : SetOk C id o o' v w) (ho : Ext C (C.put (hset C.H id o') id v w C.Av) → ObjRep (C.put (hset C.H id o') id v w C.Av) id o') : HRep (C.put (hset C.H id o') id v w C.Av) := by
  have he := Ext.set s
  have hg : ∀ i, hget (C.put (hset C.H id o') id v w C.Av).H i = if id = i then some o' else hget C.H i := fun i => hset_some s.at_ i
  have hclash : ∀ i g, i ≠ id → (∃ o2, hget C.H i = some o2) → blk (C.φ i) = some g → blk v = some g → False := by
    intro i g hi ⟨o2, e2⟩ b1 b2
    rcases s.place with ⟨p1, _⟩ | p
    · exact hi (h.inj i id o2 o g e2 s.at_ b1 (p1 ▸ b2))
    · have := p g b2
      have := obj_lt (h.obj i o2 e2) b1
      omega
  refine ⟨h.nd.hset _ _, fun i o2 e a => ?_, fun i o2 e => ?_, fun i i' o1 o2 g e1 e2 b1 b2 => ?_, fun i o1 g off e1 b1 => ?_, fun g off hx => Nat.lt_of_lt_of_le (h.xlt g off hx) s.size⟩
  · rw [hg] at e
    split at e
    · rename_i hc; subst hc; exact h.av id o s.at_ a
    · exact h.av i o2 e a
  · rw [hg] at e
    split at e
    · rename_i hc
      subst hc
      injection e with e
      subst e
      exact ho he
    · rename_i hc
      refine (h.obj i o2 e).step (put_other _ _ _ _ _ _ (Ne.symm hc)) (fun g hg' => ?_) (fun _ _ r => r.ext he)
      refine s.other g (obj_lt (h.obj i o2 e) hg') fun e' => hc ?_
      exact (h.inj i id o2 o g e s.at_ hg' e'.symm).symm
  · rw [hg] at e1 e2
    split at e1 <;> split at e2
    · rename_i c1 c2; rw [← c1, ← c2]
    · rename_i c1 c2
      subst c1
      rw [put_self] at b1
      rw [put_other _ _ _ _ _ _ (Ne.symm c2)] at b2
      exact (hclash i' g (Ne.symm c2) ⟨_, e2⟩ b2 b1).elim
    · rename_i c1 c2
      subst c2
      rw [put_self] at b2
      rw [put_other _ _ _ _ _ _ (Ne.symm c1)] at b1
      exact (hclash i g (Ne.symm c1) ⟨_, e1⟩ b1 b2).elim
    · rename_i c1 c2
      rw [put_other _ _ _ _ _ _ (Ne.symm c1)] at b1
      rw [put_other _ _ _ _ _ _ (Ne.symm c2)] at b2
      exact h.inj i i' o1 o2 g e1 e2 b1 b2
  · rw [hg] at e1
    split at e1
    · rename_i c1
      subst c1
      rw [put_self] at b1
      intro hx
      rcases s.place with ⟨p1, _⟩ | p
      · exact h.own id o g off s.at_ (p1 ▸ b1) hx
      · have := p g b1
        have := h.xlt g off hx
        omega
    · rename_i c1
      rw [put_other _ _ _ _ _ _ (Ne.symm c1)] at b1
      exact h.own i o1 g off e1 b1
end

end Go.Proofs.Abs

set_option linter.all false
set_option linter.constructorNameAsVariable false
set_option linter.defProp false
set_option linter.unusedVariables false
set_option linter.unusedSimpArgs false
namespace Go.Proofs.Abs
open Go

/-! ### Constants, operands -/
def constOK1 : Value → AV → Bool
  | .bool b, .bool b' => b == b'
  | .int k n, .int k' n' => decide (k = k') && n == n'
  | .string s, .str s' => decide (s = s')
  | .slice none 0 0, .nils => true
  | .slice none 0 0, .list sz [] => decide (0 < sz)
  | .pointer none, .nilp => true
  | .nilIface, .nili => true
  | .nilFunc, .nilf => true
  | .map none, .nilm => true
  | _, _ => false
def constCells : List Value → List AV → Bool
  | [], [] => true
  | v :: vs, x :: xs => constOK1 v x && constCells vs xs
  | _, _ => false
def constOK : Value → AV → Bool
  | .agg cs, .agg l => constCells cs.toList l
  | v, x => constOK1 v x
def opdOK : Operand → AX → Bool
  | .tmp t, .t i => t == i
  | .const v, .k x => constOK v x
  | .func f, .k (.func g []) => f == g
  | _, _ => false
def opdOKo : Option Operand → Option AX → Bool
  | none, none => true
  | some x, some y => opdOK x y
  | _, _ => false
def opdsOK : List Operand → List AX → Bool
  | [], [] => true
  | x :: xs, y :: ys => opdOK x y && opdsOK xs ys
  | _, _ => false

theorem rep_const1 (C : Ctx) {v : Value} {x : AV} (h : constOK1 v x = true) : Rep C x v ∧ isCell x = true := by
  unfold constOK1 at h
  split at h
  · simp only [beq_iff_eq] at h; subst h; exact ⟨.bool _, rfl⟩
  · simp only [Bool.and_eq_true, decide_eq_true_eq, beq_iff_eq] at h
    obtain ⟨rfl, rfl⟩ := h
    exact ⟨.int _ _, rfl⟩
  · simp only [decide_eq_true_eq] at h; subst h; exact ⟨.str _, rfl⟩
  · exact ⟨.nils, rfl⟩
  · exact ⟨.list _ [] none 0 (fun _ => undef) (of_decide_eq_true h) (Nat.le_refl _) (fun _ => rfl) (by simp) (by simp) (by simp) (by simp), rfl⟩
  · exact ⟨.nilp, rfl⟩
  · exact ⟨.nili, rfl⟩
  · exact ⟨.nilf, rfl⟩
  · exact ⟨.nilm, rfl⟩
  · cases h

theorem rep_constCells (C : Ctx) : ∀ {vs : List Value} {xs : List AV}, constCells vs xs = true → RepL C xs vs ∧ Cells xs
  | [], [], _ => ⟨⟨rfl, by simp⟩, by intro j av; simp⟩
  | v :: vs, x :: xs, h => by
    simp only [constCells, Bool.and_eq_true] at h
    obtain ⟨h1, h2⟩ := rep_const1 C h.1
    obtain ⟨h3, h4⟩ := rep_constCells C h.2
    refine ⟨⟨by simp [h3.1], fun j av v' e e' => ?_⟩, fun j av e => ?_⟩
    · cases j with
      | zero => simp at e e'; subst e; subst e'; exact h1
      | succ j => simp at e e'; exact h3.2 j _ _ e e'
    · cases j with
      | zero => simp at e; subst e; exact h2
      | succ j => simp at e; exact h4 j _ e
  | [], _ :: _, h => by simp [constCells] at h
  | _ :: _, [], h => by simp [constCells] at h

theorem rep_const (C : Ctx) {v : Value} {x : AV} (h : constOK v x = true) : Rep C x v := by
  unfold constOK at h
  split at h
  · rename_i cs l
    obtain ⟨h1, h2⟩ := rep_constCells C h
    have := Rep.agg (C := C) l cs.toList h1.1 h2 h1.2
    simpa using this
  · exact (rep_const1 C h).1

/-- The frame's relation to an environment. -/
structure SimE (nt : Nat) (env : Env) (C : Ctx) (a : Act) : Prop where
  size : a.tmps.size = nt
  defers : a.defers = []
  env : ∀ i, Rep C (eget env i) (a.tmps.getD i undef)

theorem SimE.ext {nt : Nat} {env : Env} {C C' : Ctx} {a : Act} (h : SimE nt env C a) (e : Ext C C') : SimE nt env C' a := ⟨h.size, h.defers, fun i => (h.env i).ext e⟩

theorem rep_opd {nt : Nat} {env : Env} {C : Ctx} {a : Act} (h : SimE nt env C a) {x : Operand} {y : AX} (hx : opdOK x y = true) : Rep C (y.ev env) (a.eval x) := by
  unfold opdOK at hx
  split at hx
  · simp only [beq_iff_eq] at hx; subst hx; exact h.env _
  · exact rep_const C hx
  · simp only [beq_iff_eq] at hx; subst hx
    exact Rep.func _ [] [] rfl (by simp)
  · cases hx

/-! ### What is read off a value -/
section
variable {C : Ctx} {v : Value}
theorem Rep.bool_inv {b : Bool} (h : Rep C (.bool b) v) : v = .bool b := by cases h; rfl
theorem Rep.int_inv {k : IntKind} {n : Int} (h : Rep C (.int k n) v) : v = .int k n := by cases h; rfl
theorem Rep.str_inv {s : ByteArray} (h : Rep C (.str s) v) : v = .string s := by cases h; rfl
theorem Rep.agg_inv {cs : List AV} (h : Rep C (.agg cs) v) : ∃ vs : List Value, v = .agg vs.toArray ∧ RepL C cs vs ∧ Cells cs := by
  cases h with
  | agg _ vs hl hc hv => exact ⟨vs, rfl, ⟨hl, hv⟩, hc⟩
theorem Rep.tuple_inv {cs : List AV} (h : Rep C (.tuple cs) v) : ∃ vs : List Value, v = .tuple vs.toArray ∧ RepL C cs vs := by
  cases h with
  | tuple _ vs hl hv => exact ⟨vs, rfl, hl, hv⟩
theorem Rep.func_inv {f : Nat} {cs : List AV} (h : Rep C (.func f cs) v) : ∃ vs : List Value, v = .func (.func f) #[] vs.toArray ∧ RepL C cs vs := by
  cases h with
  | func _ _ vs hl hv => exact ⟨vs, rfl, hl, hv⟩

theorem Rep.cell {av : AV} (h : Rep C av v) (hc : isCell av = true) : v.oneCell' = true ∧ v.cells = #[v] := by
  cases h with
  | undef => cases hc
  | agg => cases hc
  | tuple => cases hc
  | tl => cases hc
  | own id n v ha hs ho => obtain ⟨a, l, c, rfl⟩ := hs; exact ⟨rfl, rfl⟩
  | ref id n i j v ha hs ho => obtain ⟨a, rfl⟩ := hs; exact ⟨rfl, rfl⟩
  | map id v ha hs ho => obtain ⟨a, rfl⟩ := hs; exact ⟨rfl, rfl⟩
  | _ => exact ⟨rfl, rfl⟩

theorem RepL.nil : RepL C [] [] := ⟨rfl, by simp⟩
theorem RepL.cons {x : AV} {xs : List AV} {vs : List Value} (h : Rep C x v) (h2 : RepL C xs vs) : RepL C (x :: xs) (v :: vs) := by
  refine ⟨by simp [h2.1], fun j av v' e e' => ?_⟩
  cases j with
  | zero => simp at e e'; subst e; subst e'; exact h
  | succ j => simp at e e'; exact h2.2 j _ _ e e'
theorem Cells.nil : Cells [] := by intro j av; simp
theorem Cells.cons {x : AV} {xs : List AV} (h : isCell x = true) (h2 : Cells xs) : Cells (x :: xs) := by
  intro j av e
  cases j with
  | zero => simp at e; subst e; exact h
  | succ j => simp at e; exact h2 j _ e
theorem Cells.mem {xs : List AV} (h : Cells xs) {x : AV} (hx : x ∈ xs) : isCell x = true := by
  obtain ⟨j, hj, e⟩ := List.getElem_of_mem hx
  exact h j x (by rw [List.getElem?_eq_getElem hj, e])
theorem RepL.app {xs ys : List AV} {vs us : List Value} (h : RepL C xs vs) (h2 : RepL C ys us) : RepL C (xs ++ ys) (vs ++ us) := by
  refine ⟨by simp [h.1, h2.1], fun j av v' e e' => ?_⟩
  by_cases hj : j < xs.length
  · rw [List.getElem?_append_left hj] at e
    rw [List.getElem?_append_left (by rw [← h.1]; exact hj)] at e'
    exact h.2 j _ _ e e'
  · rw [List.getElem?_append_right (by omega)] at e
    rw [List.getElem?_append_right (by rw [← h.1]; omega), ← h.1] at e'
    exact h2.2 _ _ _ e e'
theorem Cells.app {xs ys : List AV} (h : Cells xs) (h2 : Cells ys) : Cells (xs ++ ys) := by
  intro j av e
  by_cases hj : j < xs.length
  · rw [List.getElem?_append_left hj] at e; exact h j _ e
  · rw [List.getElem?_append_right (by omega)] at e; exact h2 _ _ e
theorem RepL.take {xs : List AV} {vs : List Value} (h : RepL C xs vs) (n : Nat) : RepL C (xs.take n) (vs.take n) := by
  refine ⟨by simp [h.1], fun j av v' e e' => ?_⟩
  rw [List.getElem?_take] at e e'
  split at e
  · rename_i hj; rw [if_pos hj] at e'; exact h.2 j _ _ e e'
  · cases e
theorem RepL.drop {xs : List AV} {vs : List Value} (h : RepL C xs vs) (n : Nat) : RepL C (xs.drop n) (vs.drop n) := by
  refine ⟨by simp [h.1], fun j av v' e e' => ?_⟩
  rw [List.getElem?_drop] at e e'
  exact h.2 _ _ _ e e'
theorem Cells.take {xs : List AV} (h : Cells xs) (n : Nat) : Cells (xs.take n) := by
  intro j av e
  rw [List.getElem?_take] at e
  split at e
  · exact h j _ e
  · cases e
theorem Cells.drop {xs : List AV} (h : Cells xs) (n : Nat) : Cells (xs.drop n) := by
  intro j av e
  rw [List.getElem?_drop] at e
  exact h _ _ e

theorem cellsOf_rep {av : AV} (h : Rep C av v) {cs : List AV} (hc : cellsOf av = some cs) : RepL C cs v.cells.toList ∧ Cells cs := by
  by_cases hk : isCell av = true
  · have hcs : cs = [av] := by
      cases av <;> simp_all [cellsOf, isCell]
    subst hcs
    rw [(h.cell hk).2]
    exact ⟨.cons h .nil, .cons hk .nil⟩
  · cases h with
    | agg cs' vs hl hc' hv =>
      simp only [cellsOf, Option.some.injEq] at hc
      subst hc
      exact ⟨⟨hl, hv⟩, hc'⟩
    | undef => simp [cellsOf] at hc
    | tuple => simp [cellsOf] at hc
    | tl => simp [cellsOf] at hc
    | _ => simp [isCell] at hk

/-- What was loaded. -/
theorem ofCells_rep {agg : Bool} {cs : List AV} {vs : List Value} {av : AV} (h : RepL C cs vs) (hc : Cells cs) (ho : ofCells agg cs = some av) : (agg = true ∧ Rep C av (.agg vs.toArray)) ∨ (agg = false ∧ ∃ u, vs = [u] ∧ Rep C av u) := by
  unfold ofCells at ho
  cases agg with
  | true =>
    simp only [if_true, Option.some.injEq] at ho
    subst ho
    exact .inl ⟨rfl, .agg cs vs h.1 hc h.2⟩
  | false =>
    simp only [Bool.false_eq_true, if_false] at ho
    split at ho
    · rename_i v'
      injection ho with ho
      subst ho
      have hl : vs.length = 1 := by have := h.1; simp at this; omega
      obtain ⟨u, rfl⟩ := List.length_eq_one_iff.1 hl
      exact .inr ⟨rfl, u, rfl, h.2 0 _ _ rfl rfl⟩
    · cases ho
end

/-! ### The program's tables -/
def sizeIs (P : Program) (t m : Nat) : Bool := match P.info? t with
  | some i => i.size == m
  | none => false
def bytesIs (P : Program) (t m : Nat) : Bool := match P.info? t with
  | some i => i.bytes == m
  | none => false
def aggIs (P : Program) (t : Nat) (b : Bool) : Bool := match P.underlying t with
  | some (.struct _) | some (.array _ _) => b
  | some _ => !b
  | none => false
def zeroIs (P : Program) (t : Nat) (l : List AV) : Bool := match P.info? t with
  | some i => match i.zero with
    | some z => constCells z.cells.toList l
    | none => false
  | none => false
def sliceIs (P : Program) (t e : Nat) : Bool := match P.underlying t with
  | some (.slice e') => e' == e
  | _ => false

theorem sizeIs_iff {P : Program} {t m : Nat} (h : sizeIs P t m = true) : ∃ i, P.info? t = some i ∧ i.size = m := by
  unfold sizeIs at h
  split at h
  · rename_i i e; exact ⟨i, e, by simpa using h⟩
  · cases h
theorem bytesIs_iff {P : Program} {t m : Nat} (h : bytesIs P t m = true) : ∃ i, P.info? t = some i ∧ i.bytes = m := by
  unfold bytesIs at h
  split at h
  · rename_i i e; exact ⟨i, e, by simpa using h⟩
  · cases h
theorem zeroIs_iff {P : Program} {t : Nat} {l : List AV} (h : zeroIs P t l = true) : ∃ i z, P.info? t = some i ∧ i.zero = some z ∧ constCells z.cells.toList l = true := by
  unfold zeroIs at h
  split at h
  · rename_i i e
    split at h
    · rename_i z e2; exact ⟨i, z, e, e2, h⟩
    · cases h
  · cases h
theorem sliceIs_iff {P : Program} {t e : Nat} (h : sliceIs P t e = true) : P.underlying t = some (.slice e) := by
  unfold sliceIs at h
  split at h
  · rename_i e' h'; simp at h; subst h; exact h'
  · cases h
theorem run_isAgg {P : Program} {t : Nat} {b : Bool} (h : aggIs P t b = true) (w : World) : (isAgg t).run P w = .ok b w := by
  unfold aggIs at h
  split at h
  · rename_i fs e; subst h; simp [isAgg, run_underlying e]
  · rename_i n e' e; subst h; simp [isAgg, run_underlying e]
  · rename_i d h1 h2 e
    simp at h; subst h
    simp only [isAgg, Sem.run_bind, run_underlying e, Result.andThen_ok]
    rfl
  · cases h
theorem run_sizeOf' {P : Program} {t m : Nat} (h : sizeIs P t m = true) (w : World) : (sizeOf t).run P w = .ok m w := by
  obtain ⟨i, e, rfl⟩ := sizeIs_iff h
  simp [sizeOf, typeInfo, e]
theorem run_zeroValue' {P : Program} {t : Nat} {i : TypeInfo} {z : Value} (h : P.info? t = some i) (hz : i.zero = some z) (w : World) : (zeroValue t).run P w = .ok z w := by
  simp [zeroValue, typeInfo, h, hz]

end Go.Proofs.Abs

set_option linter.all false
set_option linter.constructorNameAsVariable false
set_option linter.defProp false
set_option linter.unusedVariables false
set_option linter.unusedSimpArgs false
namespace Go.Proofs.Abs
open Go

/-! ### Freezing -/
def flg (o o' : AObj) : Prop := o' = o ∨ ∃ wr fl e sz rows, o = .row wr fl e sz rows ∧ o' = .row false fl e sz rows
structure FlagLe (H H' : Heap) : Prop where
  down : ∀ i o', hget H' i = some o' → ∃ o, hget H i = some o ∧ flg o o'
  up : ∀ i o, hget H i = some o → ∃ o', hget H' i = some o' ∧ flg o o'
  nd : HND H → HND H'

theorem flg.refl (o : AObj) : flg o o := .inl rfl
theorem flg.trans {a b c : AObj} (h : flg a b) (k : flg b c) : flg a c := by
  rcases h with rfl | ⟨wr, fl, e, sz, rows, rfl, rfl⟩
  · exact k
  · rcases k with rfl | ⟨wr', fl', e', sz', rows', h, rfl⟩
    · exact .inr ⟨_, _, _, _, _, rfl, rfl⟩
    · injection h with h1 h2 h3 h4 h5
      subst h2; subst h3; subst h4; subst h5
      exact .inr ⟨_, _, _, _, _, rfl, rfl⟩
theorem flg.kind {o o' : AObj} (h : flg o o') : okind o' = okind o ∧ asize o' = asize o := by
  rcases h with rfl | ⟨wr, fl, e, sz, rows, rfl, rfl⟩ <;> exact ⟨rfl, rfl⟩
theorem flg.mut {o o' : AObj} (h : flg o o') {off : Nat} (hm : mutAt o' off) : mutAt o off := by
  rcases h with rfl | ⟨wr, fl, e, sz, rows, rfl, rfl⟩
  · exact hm
  · simp only [mutAt, Bool.false_eq_true, false_or] at hm ⊢
    exact .inr hm
theorem FlagLe.refl (H : Heap) : FlagLe H H := ⟨fun i o h => ⟨o, h, .refl _⟩, fun i o h => ⟨o, h, .refl _⟩, id⟩
theorem FlagLe.trans {A B C : Heap} (h : FlagLe A B) (k : FlagLe B C) : FlagLe A C :=
  ⟨fun i o e => by
    obtain ⟨o1, e1, f1⟩ := k.down i o e
    obtain ⟨o2, e2, f2⟩ := h.down i o1 e1
    exact ⟨o2, e2, f2.trans f1⟩,
   fun i o e => by
    obtain ⟨o1, e1, f1⟩ := h.up i o e
    obtain ⟨o2, e2, f2⟩ := k.up i o1 e1
    exact ⟨o2, e2, f1.trans f2⟩, fun hn => k.nd (h.nd hn)⟩

theorem FlagLe.set {H : Heap} {id : Id} {wr fl : Bool} {e sz : Nat} {rows : List (List AV)} (h : hget H id = some (.row wr fl e sz rows)) : FlagLe H (hset H id (.row false fl e sz rows)) := by
  have hg : ∀ i, hget (hset H id (.row false fl e sz rows)) i = if id = i then some (.row false fl e sz rows) else hget H i := by
    intro i
    rw [hget_hset]
    by_cases hi : id = i
    · subst hi; simp [h]
    · simp [hi]
  refine ⟨fun i o' e' => ?_, fun i o e' => ?_, fun hn => hn.hset _ _⟩
  · rw [hg] at e'
    split at e'
    · rename_i hc; subst hc
      injection e' with e'
      subst e'
      exact ⟨_, h, .inr ⟨_, _, _, _, _, rfl, rfl⟩⟩
    · exact ⟨o', e', .refl _⟩
  · rw [hg]
    split
    · rename_i hc; subst hc
      rw [h] at e'
      injection e' with e'
      subst e'
      exact ⟨_, rfl, .inr ⟨_, _, _, _, _, rfl, rfl⟩⟩
    · exact ⟨o, e', .refl _⟩

theorem FlagLe.ext {C : Ctx} {H : Heap} (h : FlagLe C.H H) : Ext C { C with H := H } where
  size := Nat.le_refl _
  tape := rfl
  os := rfl
  output := rfl
  block := fun _ _ _ => rfl
  cell := fun _ _ _ _ => rfl
  muts := fun k off hk hx => hx.imp (fun h => h) fun ⟨i, o', e, hb, hm⟩ => by
    obtain ⟨o, e', f⟩ := h.down i o' e
    exact ⟨i, o, e', hb, f.mut hm⟩
  obl := fun k hk ⟨i, o', e, hb⟩ => by
    obtain ⟨o, e', f⟩ := h.down i o' e
    exact ⟨i, o, e', hb⟩
  av := fun _ h => h
  x := rfl
  old := fun i o' _ e => by
    obtain ⟨o, e', f⟩ := h.down i o' e
    exact ⟨o, e', f.kind.1, by rw [f.kind.2]; exact Nat.le_refl _, fun _ => rfl⟩

theorem FlagLe.hrep {C : Ctx} {H : Heap} (h : FlagLe C.H H) (hr : HRep C) : HRep { C with H := H } where
  nd := h.nd hr.nd
  av := fun i o' e a => by
    obtain ⟨o, e', f⟩ := h.down i o' e
    exact hr.av i o e' a
  obj := fun i o' e => by
    obtain ⟨o, e', f⟩ := h.down i o' e
    have := (hr.obj i o e').step (C' := { C with H := H }) rfl (fun _ _ => rfl) (fun _ _ r => r.ext h.ext)
    rcases f with rfl | ⟨wr, fl, el, sz, rows, rfl, rfl⟩
    · exact this
    · exact this
  inj := fun i i' o o' g e e' b b' => by
    obtain ⟨o1, e1, _⟩ := h.down i o e
    obtain ⟨o2, e2, _⟩ := h.down i' o' e'
    exact hr.inj i i' o1 o2 g e1 e2 b b'
  own := fun i o g off e b => by
    obtain ⟨o1, e1, _⟩ := h.down i o e
    exact hr.own i o1 g off e1 b
  xlt := hr.xlt

theorem ownsRow_unique {w : World} {e sz n : Nat} {v : Value} {xs ys : List Value} (h : w.ownsRow 0 e sz v n xs) (k : w.ownsRow 0 e sz v n ys) : xs = ys := by
  rcases h.2 with ⟨h1, h2⟩ | ⟨g, cap, cur, hv, _, hh, _, _, _, ht⟩
  · subst h2
    have e1 : xs = [] := List.eq_nil_of_length_eq_zero (by simpa using h.1)
    have e2 : ys = [] := List.eq_nil_of_length_eq_zero (by simpa using k.1)
    rw [e1, e2]
  · rcases k.2 with ⟨k1, _⟩ | ⟨g', cap', cur', kv, _, kh, _, _, _, kt⟩
    · rw [hv] at k1; cases k1
    · rw [hv] at kv
      injection kv with kv
      injection kv with kv
      injection kv with kv
      subst kv
      rw [hh] at kh
      injection kh with kh
      injection kh with kh
      subst kh
      rw [← ht, ← kt]

/-- A row of one's own that is written no more is told by its contents. -/
theorem rep_list_of_row {C : Ctx} (hr : HRep C) {id : Id} {fl : Bool} {e sz : Nat} {rows rows' : List (List AV)} (h : hget C.H id = some (.row false fl e sz rows))
    (hlen : rows'.length = rows.length) (hrow : ∀ r ∈ rows', r.length = sz) (hcell : Cells rows'.flatten) (hrep : ∀ xs, C.w.ownsRow 0 e sz (C.φ id) rows.length xs → RepL C rows.flatten xs → RepL C rows'.flatten xs) : Rep C (.list sz rows') (C.φ id) := by
  obtain ⟨h0, h1, h2, xs, h3, h4⟩ := hr.obj id _ h
  have h4' := hrep xs h3 h4
  have hfl : rows'.flatten.length = rows.length * sz := by rw [h4'.1]; exact h3.1
  rcases h3.2 with ⟨hv, hn⟩ | ⟨g, cap, cur, hv, _, hh, hnc, _, hcs, htake⟩
  · have hr0 : rows' = [] := List.eq_nil_of_length_eq_zero (by omega)
    subst hr0
    rw [hv]
    exact .list sz [] none 0 (fun _ => undef) h0 (Nat.le_refl _) (fun _ => rfl) (by simp) (by simp) (by simp) (by simp)
  · rw [hv, ← hlen]
    refine .list sz rows' (some ⟨g, 0, none⟩) cap (fun j => xs.getD j undef) h0 (by omega) (by simp) hrow (fun _ => ⟨_, rfl, rfl⟩) (fun j av ej => ⟨hcell j av ej, fun ad ea => ?_⟩) (fun j av ej => ?_)
    · injection ea with ea
      subst ea
      have hj : j < rows'.flatten.length := (List.getElem?_eq_some_iff.1 ej).1
      have hx : xs[j]? = some (xs.getD j undef) := by
        have : j < xs.length := by rw [← h4'.1]; exact hj
        simp [List.getD, List.getElem?_eq_getElem this]
      refine ⟨?_, ?_⟩
      · have hc : cur[j]? = some (xs.getD j undef) := by
          rw [← htake, List.getElem?_take, if_pos (by rw [h4'.1, h3.1] at hj; exact hj)] at hx
          rw [Array.getElem?_toList] at hx
          rw [hx, ← htake]
        simp only [World.cell?, hh]
        simpa using hc
      · have hb2 : blk (C.φ id) = some g := by rw [hv]; rfl
        rintro (hx | ⟨i, o', ei, hb, hm⟩)
        · exact hr.own id _ g _ h hb2 hx
        have := hr.inj i id o' _ g ei h hb hb2
        subst this
        rw [h] at ei
        injection ei with ei
        subst ei
        simp only [mutAt, Bool.false_eq_true, false_or] at hm
        rw [hfl] at hj
        simp at hm
        omega
    · have hj : j < rows'.flatten.length := (List.getElem?_eq_some_iff.1 ej).1
      have hx : xs[j]? = some (xs.getD j undef) := by
        have : j < xs.length := by rw [← h4'.1]; exact hj
        simp [List.getD, List.getElem?_eq_getElem this]
      exact h4'.2 j _ _ ej hx

/-- What freezing does: flags alone; the value stays the value. -/
def FzOK (f : Heap → AV → Option (AV × Heap)) : Prop := ∀ H v v' H', f H v = some (v', H') → FlagLe H H' ∧ (isCell v = true → isCell v' = true) ∧
  ∀ C u, C.H = H → HRep C → Rep C v u → Rep { C with H := H' } v' u

theorem fzcells_ok {f : Heap → AV → Option (AV × Heap)} (hf : FzOK f) : ∀ (cs : List AV) (H : Heap) (cs' : List AV) (H' : Heap), fzd.fzcells f H cs = some (cs', H') →
    FlagLe H H' ∧ cs'.length = cs.length ∧ (Cells cs → Cells cs') ∧ ∀ C vs, C.H = H → HRep C → RepL C cs vs → RepL { C with H := H' } cs' vs
  | [], H, cs', H', h => by
    simp only [fzd.fzcells, Option.some.injEq, Prod.mk.injEq] at h
    obtain ⟨rfl, rfl⟩ := h
    exact ⟨.refl _, rfl, id, fun C vs e hr h => by subst e; exact h⟩
  | c :: cs, H, cs', H', h => by
    simp only [fzd.fzcells] at h
    cases h1 : f H c with
    | none => rw [h1] at h; cases h
    | some p =>
      obtain ⟨c', H1⟩ := p
      rw [h1] at h
      simp only at h
      cases h2 : fzd.fzcells f H1 cs with
      | none => rw [h2] at h; cases h
      | some q =>
        obtain ⟨cs2, H2⟩ := q
        rw [h2] at h
        simp only [Option.some.injEq, Prod.mk.injEq] at h
        obtain ⟨rfl, rfl⟩ := h
        obtain ⟨a1, a2, a3⟩ := hf _ _ _ _ h1
        obtain ⟨b1, b2, b3, b4⟩ := fzcells_ok hf cs H1 cs2 H2 h2
        refine ⟨a1.trans b1, by simp [b2], fun hc => .cons (a2 (hc 0 _ rfl)) (b3 fun j av e => hc (j + 1) av (by simpa using e)), fun C vs e hr h => ?_⟩
        subst e
        have hl := h.1
        cases vs with
        | nil => simp at hl
        | cons v vs =>
          have r1 := a3 C v rfl hr (h.2 0 _ _ rfl rfl)
          have hr1 := a1.hrep hr
          have rest : RepL C cs vs := ⟨by simpa using hl, fun j av v' e e' => h.2 (j + 1) av v' (by simpa using e) (by simpa using e')⟩
          have r2 := b4 { C with H := H1 } vs rfl hr1 (rest.mono fun _ _ r => r.ext a1.ext)
          exact .cons (r1.ext (C := { C with H := H1 }) (C' := { C with H := H2 }) b1.ext) r2

theorem fzrows_ok {f : Heap → AV → Option (AV × Heap)} (hf : FzOK f) : ∀ (rows : List (List AV)) (H : Heap) (rows' : List (List AV)) (H' : Heap), fzd.fzrows f H rows = some (rows', H') →
    FlagLe H H' ∧ rows'.length = rows.length ∧ (∀ sz, (∀ r ∈ rows, r.length = sz) → ∀ r ∈ rows', r.length = sz) ∧ (Cells rows.flatten → Cells rows'.flatten) ∧ ∀ C vs, C.H = H → HRep C → RepL C rows.flatten vs → RepL { C with H := H' } rows'.flatten vs
  | [], H, cs', H', h => by
    simp only [fzd.fzrows, Option.some.injEq, Prod.mk.injEq] at h
    obtain ⟨rfl, rfl⟩ := h
    exact ⟨.refl _, rfl, fun _ h => h, id, fun C vs e hr h => by subst e; exact h⟩
  | c :: cs, H, cs', H', h => by
    simp only [fzd.fzrows] at h
    cases h1 : fzd.fzcells f H c with
    | none => rw [h1] at h; cases h
    | some p =>
      obtain ⟨c', H1⟩ := p
      rw [h1] at h
      simp only at h
      cases h2 : fzd.fzrows f H1 cs with
      | none => rw [h2] at h; cases h
      | some q =>
        obtain ⟨cs2, H2⟩ := q
        rw [h2] at h
        simp only [Option.some.injEq, Prod.mk.injEq] at h
        obtain ⟨rfl, rfl⟩ := h
        obtain ⟨a1, a2, a3, a4⟩ := fzcells_ok hf _ _ _ _ h1
        obtain ⟨b1, b2, b3, b4, b5⟩ := fzrows_ok hf cs H1 cs2 H2 h2
        refine ⟨a1.trans b1, by simp [b2], fun sz hs r hr => ?_, fun hc => ?_, fun C vs e hr h => ?_⟩
        · rcases List.mem_cons.1 hr with rfl | hr
          · rw [a2]; exact hs c (by simp)
          · exact b3 sz (fun r hr => hs r (by simp [hr])) r hr
        · simp only [List.flatten_cons] at hc ⊢
          refine (a3 fun j av e => hc j av ?_).app (b4 fun j av e => hc (c.length + j) av ?_)
          · rw [List.getElem?_append_left (List.getElem?_eq_some_iff.1 e).1]; exact e
          · rw [List.getElem?_append_right (by omega)]; simpa using e
        · subst e
          simp only [List.flatten_cons] at h ⊢
          have h1' : RepL C c (vs.take c.length) := by have := h.take c.length; simpa using this
          have h2' : RepL C cs.flatten (vs.drop c.length) := by have := h.drop c.length; simpa using this
          have r1 := a4 C _ rfl hr h1'
          have hr1 := a1.hrep hr
          have r2 := b5 { C with H := H1 } _ rfl hr1 (h2'.mono fun _ _ r => r.ext a1.ext)
          have r3 := (r1.mono fun _ _ r => r.ext (C := { C with H := H1 }) (C' := { C with H := H2 }) b1.ext).app r2
          rwa [List.take_append_drop] at r3

theorem fzd_ok : ∀ d, FzOK (fzd d)
  | 0 => fun H v v' H' h => by simp [fzd] at h
  | d + 1 => fun H v v' H' h => by
    have ih := fzd_ok d
    unfold fzd at h
    split at h
    · rename_i id n
      split at h
      · rename_i wr e sz rows hg
        split at h
        · rename_i hn
          simp only [Option.some.injEq, Prod.mk.injEq] at h
          obtain ⟨rfl, rfl⟩ := h
          have hfl := FlagLe.set hg
          refine ⟨hfl, fun _ => rfl, fun C u eH hr hv => ?_⟩
          subst eH
          cases hv with
          | own _ _ _ ha hs ho =>
            rcases (ho _ hg).2 hn with hu | ⟨hn0, _, b, rfl⟩
            case inr =>
              have hrz : rows = [] := List.eq_nil_of_length_eq_zero (by omega)
              subst hrz
              exact .list sz [] b 0 (fun _ => undef) (hr.obj id _ hg).1 (Nat.le_refl _) (fun _ => rfl) (by simp) (by simp) (by simp) (by simp)
            rw [hu]
            refine rep_list_of_row (C := { C with H := hset C.H id (.row false true e sz rows) }) (hfl.hrep hr) (e := e) (fl := true) (by show hget (hset C.H id _) id = _; rw [hget_hset, if_pos ⟨rfl, by rw [hg]; rfl⟩]) rfl ?_ ?_ (fun xs _ h => h)
            · exact (hr.obj id _ hg).2.1
            · exact (hr.obj id _ hg).2.2.1
        · cases h
      · rename_i wr e sz rows hg
        split at h
        · rename_i hn
          split at h
          · rename_i rows' H2 hz
            simp only [Option.some.injEq, Prod.mk.injEq] at h
            obtain ⟨rfl, rfl⟩ := h
            have hfl := FlagLe.set hg
            obtain ⟨b1, b2, b3, b4, b5⟩ := fzrows_ok ih _ _ _ _ hz
            refine ⟨hfl.trans b1, fun _ => rfl, fun C u eH hr hv => ?_⟩
            subst eH
            cases hv with
            | own _ _ _ ha hs ho =>
              rcases (ho _ hg).2 hn with hu | ⟨hn0, _, b, rfl⟩
              case inr =>
                have hrz : rows' = [] := List.eq_nil_of_length_eq_zero (by omega)
                subst hrz
                exact .list sz [] b 0 (fun _ => undef) (hr.obj id _ hg).1 (Nat.le_refl _) (fun _ => rfl) (by simp) (by simp) (by simp) (by simp)
              rw [hu]
              have h1 : hget (hset C.H id (.row false false e sz rows)) id = some (.row false false e sz rows) := by rw [hget_hset, if_pos ⟨rfl, by rw [hg]; rfl⟩]
              obtain ⟨o2, e2, f2⟩ := b1.up id _ h1
              have ho2 : o2 = .row false false e sz rows := by
                rcases f2 with rfl | ⟨a, b, c, d', e', h, rfl⟩
                · rfl
                · injection h with x1 x2 x3 x4 x5
                  rw [x2, x3, x4, x5]
              subst ho2
              obtain ⟨h00, h01, h02, _⟩ := hr.obj id _ hg
              have hr1 := hfl.hrep hr
              obtain ⟨_, _, _, xs0, h03, h04⟩ := hr1.obj id _ h1
              have r5 := b5 { C with H := hset C.H id (.row false false e sz rows) } xs0 rfl hr1 h04
              have hr2 : HRep { C with H := H2 } := FlagLe.hrep (C := { C with H := hset C.H id (.row false false e sz rows) }) b1 hr1
              refine rep_list_of_row (C := { C with H := H2 }) hr2 e2 b2 (b3 sz h01) (b4 h02) (fun xs hx _ => ?_)
              have hxx : xs = xs0 := ownsRow_unique hx h03
              rw [hxx]
              exact r5
          · cases h
        · cases h
      · cases h
    · rename_i cs
      split at h
      · rename_i cs' H1 hz
        simp only [Option.some.injEq, Prod.mk.injEq] at h
        obtain ⟨rfl, rfl⟩ := h
        obtain ⟨a1, a2, a3, a4⟩ := fzcells_ok ih _ _ _ _ hz
        refine ⟨a1, fun hc => by simp [isCell] at hc, fun C u e hr hv => ?_⟩
        obtain ⟨vs, rfl, h1, h2⟩ := hv.agg_inv
        have := a4 C vs e hr h1
        exact .agg _ vs this.1 (a3 h2) this.2
      · cases h
    · rename_i cs
      split at h
      · rename_i cs' H1 hz
        simp only [Option.some.injEq, Prod.mk.injEq] at h
        obtain ⟨rfl, rfl⟩ := h
        obtain ⟨a1, a2, a3, a4⟩ := fzcells_ok ih _ _ _ _ hz
        refine ⟨a1, fun hc => by simp [isCell] at hc, fun C u e hr hv => ?_⟩
        obtain ⟨vs, rfl, h1⟩ := hv.tuple_inv
        have := a4 C vs e hr h1
        exact .tuple _ vs this.1 this.2
      · cases h
    · cases h
    · simp only [Option.some.injEq, Prod.mk.injEq] at h
      obtain ⟨rfl, rfl⟩ := h
      exact ⟨.refl _, id, fun C u e hr hv => by subst e; exact hv⟩

end Go.Proofs.Abs

set_option linter.all false
set_option linter.constructorNameAsVariable false
set_option linter.defProp false
set_option linter.unusedVariables false
set_option linter.unusedSimpArgs false
namespace Go.Proofs.Abs
open Go

/-! ### What an operation must be for an instruction -/
def partsOK (place : Nat → Option (Nat × Nat)) : List (Nat × Operand) → List (Nat × Nat × AX) → Bool
  | [], [] => true
  | (i, x) :: r, (off, sz, y) :: r' => decide (place i = some (off, sz)) && opdOK x y && partsOK place r r'
  | _, _ => false
def partsOKl : List (Nat × Operand) → List (Nat × AX) → Bool
  | [], [] => true
  | (i, x) :: r, (j, y) :: r' => i == j && opdOK x y && partsOKl r r'
  | _, _ => false
def placesOf (P : Program) (t : Nat) : Option (Nat → Option (Nat × Nat)) :=
  match P.underlying t with
  | some (.array _ e) => match P.info? e with
    | some ie => some fun i => some (i * ie.size, ie.size)
    | none => none
  | some (.struct fields) => match fields.toList.mapM (fun f => (P.info? f.type).map fun i => (f.offset, i.size)) with
    | some places => some fun i => places[i]?
    | none => none
  | _ => none
def kindIs (P : Program) (t : Nat) : Nat → Bool
  | 0 => (match P.underlying t with | some (.int _) => true | _ => false)
  | 1 => (match P.underlying t with | some .bool => true | _ => false)
  | 2 => (match P.underlying t with | some .string => true | _ => false)
  | _ => false
def structCmp (P : Program) : List Field → Nat → List Nat → Bool
  | [], _, [] => true
  | f :: r, n, k :: ks => f.name != "_" && f.offset == n && kindIs P f.type k && structCmp P r (n + 1) ks
  | _, _, _ => false

/-- A map's key type. -/
def keyTy (P : Program) (k kd : Nat) (ks : List Nat) : Bool :=
  match kd with
  | 3 => (match P.underlying k with
    | some (.struct fs) => !P.stoodInHeld k && structCmp P fs.toList 0 ks
    | some (.array n e) => sizeIs P e 1 && ks.length == n && ks.all (kindIs P e)
    | _ => false)
  | kd => kindIs P k kd
def zero1 (P : Program) (t : Nat) (x : AV) : Bool := match P.info? t with
  | some i => match i.zero with
    | some z => constOK z x
    | none => false
  | none => false
def argsOK : List Operand → List (Bool × AX) → Bool
  | [], [] => true
  | x :: xs, (_, y) :: ys => opdOK x y && argsOK xs ys
  | _, _ => false

def chkIns (P : Program) (o : Oper) (ins : AIns) : Bool :=
  match ins with
  | .mov x => match o.op with
    | .move y => opdOK y x
    | .assign y => opdOK y x
    | _ => false
  | .anil _ sz => match o.op with
    | .assign (.const (.slice none 0 0)) => decide (0 < sz)
    | _ => false
  | .pick c x y => match o.op with
    | .pick c' x' y' => opdOK c' c && opdOK x' x && opdOK y' y
    | _ => false
  | .new zero => match o.op with
    | .alloc t => zeroIs P t zero
    | _ => false
  | .box x => match o.op with
    | .box _ y => opdOK y x
    | _ => false
  | .agg zero parts => match o.op with
    | .build t ps => zeroIs P t zero && (match placesOf P t with | some pl => partsOK pl ps.toList parts | none => false)
    | _ => false
  | .mkl e sz zero n parts _ => match o.op with
    | .buildSlice t len ps => sliceIs P t e && sizeIs P e sz && zeroIs P e zero && decide (0 < sz) && len == n && decide (len * sz ≤ 16777216) && zero.length == sz && partsOKl ps.toList parts
    | _ => false
  | .load agg m p => match o.op with
    | .load t x => opdOK x p && aggIs P t agg && sizeIs P t m && (agg || m == 1)
    | _ => false
  | .store _ m p x => match o.op with
    | .store t p' x' => opdOK p' p && opdOK x' x && sizeIs P t m && o.dst.isNone
    | _ => false
  | .nilck x => match o.op with
    | .nilCheck y => opdOK y x
    | _ => false
  | .bin op ty x y => match o.op with
    | .binOp op' t x' y' _ => decide (op' = op) && opdOK x' x && opdOK y' y && (match ty with
        | 0 => true
        | 1 => (match P.underlying t with | some .bool => true | _ => false)
        | _ => false)
    | _ => false
  | .bins op ks x y => match o.op with
    | .binOp op' t x' y' _ => decide (op' = op) && opdOK x' x && opdOK y' y && (match P.underlying t with
        | some (.struct fs) => !P.eqGuardType P.depth t && !P.stoodInHeld t && structCmp P fs.toList 0 ks
        | _ => false)
    | _ => false
  | .un op x => match o.op with
    | .unOp op' _ x' => decide (op' = op) && opdOK x' x
    | _ => false
  | .conv k x => match o.op with
    | .convert src dst x' => opdOK x' x && (P.underlying src).isSome && (match P.underlying dst with | some (.int k') => decide (k' = k) | _ => false)
    | _ => false
  | .faddr off x => match o.op with
    | .fieldAddr t x' f => opdOK x' x && (match P.underlying t with
      | some (.struct fs) => (match fs[f]? with | some fl => fl.offset == off && (match P.info? fl.type with | some i => i.size != 0 | none => false) | none => false)
      | _ => false)
    | .indexAddr t x' (.const (.int .i64 n)) => opdOK x' x && (match P.underlying t with
      | some (.array len e) => (match P.info? e with | some i => decide (0 ≤ n ∧ n < len ∧ off = n.toNat * i.size) | none => false)
      | _ => false)
    | _ => false
  | .fld agg off m x => match o.op with
    | .field t x' f => opdOK x' x && (match P.underlying t with
      | some (.struct fs) => (match fs[f]? with | some fl => fl.offset == off && aggIs P fl.type agg && sizeIs P fl.type m && (agg || m == 1) | none => false)
      | _ => false)
    | _ => false
  | .iaddr sz x i => match o.op with
    | .indexAddr t x' i' => opdOK x' x && opdOK i' i && (match P.underlying t with | some (.slice e) => sizeIs P e sz | _ => false)
    | _ => false
  | .sidx x i => match o.op with
    | .index t x' i' => opdOK x' x && opdOK i' i && (match P.underlying t with | some .string => true | _ => false)
    | _ => false
  | .slc sz x lo hi mx => match o.op with
    | .slice t x' lo' hi' mx' => opdOK x' x && opdOKo lo' lo && opdOKo hi' hi && opdOKo mx' mx && (match P.underlying t with | some (.slice e) => sizeIs P e sz | _ => false) && (mx.isNone || hi.isSome) && decide (0 < sz)
    | _ => false
  | .isnil neg x => match o.op with
    | .binOp op t x' (.const (.slice none 0 0)) _ => opdOK x' x && (match P.underlying t with | some (.slice _) => true | _ => false) && decide (op = (if neg then .neq else .eql))
    | _ => false
  | .zap elem sz x => match o.op with
    | .slice t x' none (some (.const (.int _ 0))) (some (.const (.int _ 0))) => opdOK x' x && (match P.underlying t with | some (.slice e) => e == elem && sizeIs P e sz | _ => false) && decide (0 < sz)
    | _ => false
  | .tlz sz x i => match o.op with
    | .slice t x' (some i') none none => opdOK x' x && opdOK i' i && (match P.underlying t with | some (.slice e) => sizeIs P e sz | _ => false) && decide (0 < sz)
    | _ => false
  | .clr e sz zero x => match o.op with
    | .call { callee := .builtin .clear, args, argTypes } => (match args.toList, argTypes.toList with
      | [x'], [t] => opdOK x' x && sliceIs P t e && sizeIs P e sz && zeroIs P e zero && zero.length == sz && decide (0 < sz)
      | _, _ => false)
    | _ => false
  | .sslc x lo hi => match o.op with
    | .slice t x' lo' hi' none => opdOK x' x && opdOKo lo' lo && opdOKo hi' hi && (match P.underlying t with | some .string => true | _ => false)
    | _ => false
  | .ext x i => match o.op with
    | .extract x' i' => opdOK x' x && i' == i
    | _ => false
  | .mks e sz bytes zero l => match o.op with
    | .makeSlice t l' c' => opdOK l' l && opdOK c' l && sliceIs P t e && sizeIs P e sz && bytesIs P e bytes && zeroIs P e zero && decide (0 < sz) && decide (0 < bytes) && zero.length == sz
    | _ => false
  | .mkf f caps => match o.op with
    | .makeFunc (.func f') first caps' => f' == f && first.isEmpty && opdsOK caps'.toList caps
    | _ => false
  | .mkm => match o.op with
    | .makeMap _ none => true
    | _ => false
  | .look kd ks zero ok m k => match o.op with
    | .lookup t m' k' ok' => ok' == ok && opdOK m' m && opdOK k' k && (match P.underlying t with
        | some (.map kt e) => keyTy P kt kd ks && zero1 P e zero
        | _ => false)
    | _ => false
  | .mset kd ks m k v => match o.op with
    | .mapUpdate t m' k' x | .insert t m' k' x => opdOK m' m && opdOK k' k && opdOK x v && (match P.underlying t with
        | some (.map kt _) => keyTy P kt kd ks
        | _ => false)
    | _ => false
  | .len ty x => match o.op with
    | .call { callee := .builtin .len, args, argTypes } => (match args.toList, argTypes.toList with
      | [x'], [t] => opdOK x' x && (match ty with
        | 0 => (match P.underlying t with | some .string => true | _ => false)
        | 1 => (match P.underlying t with | some (.slice _) => true | _ => false)
        | 2 => (match P.underlying t with | some (.map _ _) => true | _ => false)
        | _ => false)
      | _, _ => false)
    | _ => false
  | .app e sz bytes x y => match o.op with
    | .call { callee := .builtin .append, args, argTypes } => (match args.toList, argTypes.toList with
      | [x', y'], [t, t'] => opdOK x' x && opdOK y' y && sliceIs P t' e && sliceIs P t e && sizeIs P e sz && bytesIs P e bytes && (match P.info? e with | some i => (match i.zero with | some z => z.cells.size == sz | none => false) | none => false) && decide (0 < sz) && decide (0 < bytes)
      | _, _ => false)
    | _ => false
  | .mm mx xs => match o.op with
    | .call { callee := .builtin b, args, .. } => (match b with | .max => mx | .min => !mx | _ => false) && opdsOK args.toList xs
    | _ => false
  | .call f args => match o.op with
    | .call { callee := .value (.func f'), args := args', .. } => f' == f % 100000 && argsOK args'.toList args
    | _ => false
  | .callv x args => match o.op with
    | .call { callee := .value x', args := args', .. } => opdOK x' x && argsOK args'.toList args
    | _ => false
  | .lst e sz zero n parts => match o.op with
    | .buildSlice t len ps => sliceIs P t e && sizeIs P e sz && zeroIs P e zero && decide (0 < sz) && len == n && decide (len * sz ≤ 16777216) && zero.length == sz && partsOKl ps.toList parts
    | _ => false

/-- What an operation does to the world, told by what the instruction does. -/
def OpRes (C : Ctx) (q : Id) (r : Result Next) (av : AV) (H' : Heap) : Prop :=
  ∃ C' nv, r = .ok nv C'.w ∧ ((∃ v, nv = .value v ∧ Rep C' av v) ∨ (nv = .skip ∧ av = .undef)) ∧ C'.H = H' ∧ HRep C' ∧ Ext C C' ∧ (∀ id, C.Av id → ¬ q <+: id → C'.Av id)

theorem OpRes.pure {C : Ctx} {q : Id} {r : Result Next} {av : AV} {H' : Heap} {v : Value} (hr : HRep C) (h : r = .ok (.value v) C.w) (hv : Rep C av v) (hH : C.H = H') : OpRes C q r av H' :=
  ⟨C, .value v, h, .inl ⟨v, rfl, hv⟩, hH, hr, Ext.refl C, fun _ h _ => h⟩

theorem OpRes.flag {C : Ctx} {q : Id} {r : Result Next} {av : AV} {H' : Heap} {v : Value} (hr : HRep C) (hf : FlagLe C.H H') (h : r = .ok (.value v) C.w) (hv : Rep { C with H := H' } av v) : OpRes C q r av H' :=
  ⟨{ C with H := H' }, .value v, h, .inl ⟨v, rfl, hv⟩, rfl, hf.hrep hr, hf.ext, fun _ h _ => h⟩

/-- The names that are left behind an event. -/
def less (A : Id → Prop) (q : Id) : Id → Prop := fun i => A i ∧ ¬ q <+: i

theorem OpRes.new' {nv0 : Value} {C C0 : Ctx} {q : Id} {r : Result Next} {av : AV} {H' : Heap} {o : AObj} {v : Value} {w : World} (hr : HRep C) (hq : ∀ id, q <+: id → C.Av id)
    (h0 : C0.w = C.w ∧ C0.Av = C.Av) (he0 : Ext C0 C)
    (hrun : r = .ok (.value nv0) w) (hH : H' = hadd C.H q o) (hsz : C.w.heap.size ≤ w.heap.size) (hold : ∀ k, k < C.w.heap.size → w.heap[k]? = C.w.heap[k]?)
    (ht : w.tape = C.w.tape) (hos : w.os = C.w.os) (hout : w.output = C.w.output) (hb : ∀ g, blk v = some g → C.w.heap.size ≤ g)
    (hv : Ext C (C.put (hadd C.H q o) q v w (less C.Av q)) → Rep (C.put (hadd C.H q o) q v w (less C.Av q)) av nv0)
    (ho : Ext C (C.put (hadd C.H q o) q v w (less C.Av q)) → ObjRep (C.put (hadd C.H q o) q v w (less C.Av q)) q o) : OpRes C0 q r av H' := by
  have hA : ∀ i, less C.Av q i → C.Av i := fun i h => h.1
  have hid : ¬ less C.Av q q := fun h => h.2 (List.prefix_refl _)
  have ha : C.Av q := hq q (List.prefix_refl _)
  have he := Ext.new (o := o) (v := v) hr ha hA hsz hold ht hos hout hb
  exact ⟨_, _, hrun, .inl ⟨nv0, rfl, hv he⟩, hH.symm, HRep.new hr ha hA hid hsz hold ht hos hout hb ho, he0.trans he, fun id h1 h2 => ⟨h0.2 ▸ h1, h2⟩⟩

theorem OpRes.new {C C0 : Ctx} {q : Id} {r : Result Next} {av : AV} {H' : Heap} {o : AObj} {v : Value} {w : World} (hr : HRep C) (hq : ∀ id, q <+: id → C.Av id)
    (h0 : C0.w = C.w ∧ C0.Av = C.Av) (he0 : Ext C0 C)
    (hrun : r = .ok (.value v) w) (hH : H' = hadd C.H q o) (hsz : C.w.heap.size ≤ w.heap.size) (hold : ∀ k, k < C.w.heap.size → w.heap[k]? = C.w.heap[k]?)
    (ht : w.tape = C.w.tape) (hos : w.os = C.w.os) (hout : w.output = C.w.output) (hb : ∀ g, blk v = some g → C.w.heap.size ≤ g)
    (hv : Ext C (C.put (hadd C.H q o) q v w (less C.Av q)) → Rep (C.put (hadd C.H q o) q v w (less C.Av q)) av v)
    (ho : Ext C (C.put (hadd C.H q o) q v w (less C.Av q)) → ObjRep (C.put (hadd C.H q o) q v w (less C.Av q)) q o) : OpRes C0 q r av H' := by
  have hA : ∀ i, less C.Av q i → C.Av i := fun i h => h.1
  have hid : ¬ less C.Av q q := fun h => h.2 (List.prefix_refl _)
  have ha : C.Av q := hq q (List.prefix_refl _)
  have he := Ext.new (o := o) (v := v) hr ha hA hsz hold ht hos hout hb
  exact ⟨_, .value v, hrun, .inl ⟨v, rfl, hv he⟩, hH.symm, HRep.new hr ha hA hid hsz hold ht hos hout hb ho, he0.trans he, fun id h1 h2 => ⟨h0.2 ▸ h1, h2⟩⟩

theorem rep_own_new {C : Ctx} {q : Id} {o : AObj} {v : Value} {w : World} {n : Nat} (hn : asize o = n) (hs : ∃ a l c, v = .slice a l c) : Rep (C.put (hadd C.H q o) q v w (less C.Av q)) (.own q n) v := by
  refine .own q n v (fun h => h.2 (List.prefix_refl _)) hs fun o' e => ?_
  have e' : hget (hadd C.H q o) q = some o' := e
  rw [hget_hadd, if_pos rfl] at e'
  injection e' with e'
  subst e'
  exact ⟨by omega, fun _ => .inl (put_self _ _ _ _ _ _).symm⟩

theorem rep_ref_new {C : Ctx} {q : Id} {cells : List AV} {g : Nat} {w : World} : Rep (C.put (hadd C.H q (.box cells)) q (.pointer (some ⟨g, 0, none⟩)) w (less C.Av q)) (.ref q 1 0 0) (.pointer (some ⟨g, 0, none⟩)) := by
  refine .ref q 1 0 0 _ (fun h => h.2 (List.prefix_refl _)) ⟨_, rfl⟩ fun o' e => ?_
  have e' : hget (hadd C.H q (.box cells)) q = some o' := e
  rw [hget_hadd, if_pos rfl] at e'
  injection e' with e'
  subst e'
  exact ⟨Nat.le_refl _, fun _ => ⟨g, by rw [put_self]; rfl, by simp [cellsz]⟩⟩

section
variable {P : Program} {o : Oper} {a : Act} {C : Ctx} {nt : Nat} {s s' : St} {av : AV}

theorem ok_mov {x : AX} (sim : SimE nt s.env C a) (hH : C.H = s.heap) (hr : HRep C) (hc : chkIns P o (.mov x) = true) (h : ains (.mov x) s = some (av, s')) :
    OpRes C (s.p ++ [s.k]) ((execOp a.eval o).run P C.w) av s'.heap := by
  simp only [ains, Option.some.injEq, Prod.mk.injEq] at h
  obtain ⟨rfl, rfl⟩ := h
  simp only [chkIns] at hc
  split at hc
  · rename_i y e; exact .pure hr (by simp [execOp, e]) (rep_opd sim hc) hH
  · rename_i y e; exact .pure hr (by simp [execOp, e]) (rep_opd sim hc) hH
  · cases hc

theorem ok_anil {e sz : Nat} (sim : SimE nt s.env C a) (hH : C.H = s.heap) (hr : HRep C) (hq : ∀ id, (s.p ++ [s.k]) <+: id → C.Av id) (hc : chkIns P o (.anil e sz) = true) (h : ains (.anil e sz) s = some (av, s')) :
    OpRes C (s.p ++ [s.k]) ((execOp a.eval o).run P C.w) av s'.heap := by
  simp only [ains, Option.some.injEq, Prod.mk.injEq] at h
  obtain ⟨rfl, rfl⟩ := h
  simp only [chkIns] at hc
  split at hc
  · rename_i eo
    have h0 : 0 < sz := of_decide_eq_true hc
    refine .new (o := .row true true e sz []) (v := .slice none 0 0) (w := C.w) hr hq ⟨rfl, rfl⟩ (Ext.refl C) (by simp [execOp, eo, Act.eval]) (by simp [St.add, hH]) (Nat.le_refl _) (fun _ _ => rfl) rfl rfl rfl (by simp [blk]) (fun _ => rep_own_new rfl ⟨_, _, _, rfl⟩) (fun _ => ?_)
    refine ⟨h0, by simp, by intro j av; simp, [], ?_, .nil⟩
    rw [put_self]
    exact World.ownsRow_nil _ _ _ _
  · cases hc

theorem ok_pick {c x y : AX} (sim : SimE nt s.env C a) (hH : C.H = s.heap) (hr : HRep C) (hc : chkIns P o (.pick c x y) = true) (h : ains (.pick c x y) s = some (av, s')) :
    OpRes C (s.p ++ [s.k]) ((execOp a.eval o).run P C.w) av s'.heap := by
  simp only [ains] at h
  simp only [chkIns] at hc
  split at hc
  · rename_i c' x' y' eo
    simp only [Bool.and_eq_true] at hc
    split at h
    · rename_i t et
      simp only [Option.some.injEq, Prod.mk.injEq] at h
      obtain ⟨rfl, rfl⟩ := h
      have hcv := rep_opd sim hc.1.1
      rw [et] at hcv
      have e1 := hcv.bool_inv
      refine .pure hr (v := if t then a.eval x' else a.eval y') (by simp [execOp, eo, e1, asBool]) ?_ hH
      cases t
      · exact rep_opd sim hc.2
      · exact rep_opd sim hc.1.2
    · cases h
  · cases hc

theorem alloc_heap (w : World) (ob : Obj) : (w.alloc ob).heap = w.heap.push ob := rfl
theorem alloc_old (w : World) (ob : Obj) (k : Nat) (hk : k < w.heap.size) : (w.alloc ob).heap[k]? = w.heap[k]? := by
  rw [alloc_heap, Array.getElem?_push, if_neg (by omega)]
theorem alloc_new (w : World) (ob : Obj) : (w.alloc ob).heap[w.heap.size]? = some ob := by simp [alloc_heap]

theorem ok_new {zero : List AV} (sim : SimE nt s.env C a) (hH : C.H = s.heap) (hr : HRep C) (hq : ∀ id, (s.p ++ [s.k]) <+: id → C.Av id) (hc : chkIns P o (.new zero) = true) (h : ains (.new zero) s = some (av, s')) :
    OpRes C (s.p ++ [s.k]) ((execOp a.eval o).run P C.w) av s'.heap := by
  simp only [ains, Option.some.injEq, Prod.mk.injEq] at h
  obtain ⟨rfl, rfl⟩ := h
  simp only [chkIns] at hc
  split at hc
  · rename_i t eo
    obtain ⟨i, z, h1, h2, h3⟩ := zeroIs_iff hc
    refine .new (o := .box zero) (v := .pointer (some ⟨C.w.heap.size, 0, none⟩)) (w := C.w.alloc (.cells z.cells t)) hr hq ⟨rfl, rfl⟩ (Ext.refl C) ?_ (by simp [St.add, hH]) (by simp [alloc_heap]) (fun k hk => alloc_old _ _ _ hk) rfl rfl rfl (by intro g hg; simp [blk] at hg; omega) (fun _ => rep_ref_new) (fun _ => ?_)
    · simp [execOp, eo, Instr.alloc, run_zeroValue' h1 h2, newVar, newRow]
    · obtain ⟨r1, r2⟩ := rep_constCells (C.put (hadd C.H (s.p ++ [s.k]) (.box zero)) (s.p ++ [s.k]) (.pointer (some ⟨C.w.heap.size, 0, none⟩)) (C.w.alloc (.cells z.cells t)) (less C.Av (s.p ++ [s.k]))) h3
      exact ⟨r2, C.w.heap.size, z.cells, t, put_self _ _ _ _ _ _, alloc_new _ _, r1⟩
  · cases hc

theorem ok_box {x : AX} (sim : SimE nt s.env C a) (hH : C.H = s.heap) (hr : HRep C) (hq : ∀ id, (s.p ++ [s.k]) <+: id → C.Av id) (hc : chkIns P o (.box x) = true) (h : ains (.box x) s = some (av, s')) :
    OpRes C (s.p ++ [s.k]) ((execOp a.eval o).run P C.w) av s'.heap := by
  simp only [ains] at h
  simp only [chkIns] at hc
  split at hc
  · rename_i t y eo
    split at h
    · rename_i cs ecs
      simp only [Option.some.injEq, Prod.mk.injEq] at h
      obtain ⟨rfl, rfl⟩ := h
      obtain ⟨r1, r2⟩ := cellsOf_rep (rep_opd sim hc) ecs
      refine .new (o := .box cs) (v := .pointer (some ⟨C.w.heap.size, 0, none⟩)) (w := C.w.alloc (.cells (a.eval y).cells t)) hr hq ⟨rfl, rfl⟩ (Ext.refl C) ?_ (by simp [St.add, hH]) (by simp [alloc_heap]) (fun k hk => alloc_old _ _ _ hk) rfl rfl rfl (by intro g hg; simp [blk] at hg; omega) (fun _ => rep_ref_new) (fun he => ?_)
      · simp [execOp, eo, Instr.box, newVar, newRow]
      · exact ⟨r2, C.w.heap.size, _, t, put_self _ _ _ _ _ _, alloc_new _ _, r1.mono fun _ _ r => r.ext he⟩
    · cases h
  · cases hc

end
end Go.Proofs.Abs

set_option linter.all false
set_option linter.constructorNameAsVariable false
set_option linter.defProp false
set_option linter.unusedVariables false
set_option linter.unusedSimpArgs false
namespace Go.Proofs.Abs
open Go

section
variable {P : Program} {o : Oper} {a : Act} {C : Ctx} {nt : Nat} {s s' : St} {av : AV}

/-! ### Cells that are read -/
theorem add_none {ad : Addr} (hs : ad.spot = none) (n : Nat) : ad.add n = ⟨ad.block, ad.off + n, none⟩ := by
  unfold Addr.add
  split
  · rename_i h; subst h; cases ad; simp_all
  · cases ad; simp_all

theorem rows_flat {rows : List (List AV)} {sz : Nat} (hr : ∀ r ∈ rows, r.length = sz) : ∀ {i : Nat} {row : List AV}, rows[i]? = some row → ∀ j, j < sz → rows.flatten[i * sz + j]? = row[j]? := by
  induction rows with
  | nil => intro i row h; simp at h
  | cons r0 rest ih =>
    intro i row h j hj
    have h0 := hr r0 (by simp)
    cases i with
    | zero =>
      simp only [List.getElem?_cons_zero, Option.some.injEq] at h
      subst h
      simp only [Nat.zero_mul, Nat.zero_add, List.flatten_cons]
      rw [List.getElem?_append_left (by omega)]
    | succ i =>
      simp only [List.getElem?_cons_succ] at h
      have := ih (fun r hr' => hr r (by simp [hr'])) h j hj
      simp only [List.flatten_cons]
      rw [List.getElem?_append_right (by rw [h0, Nat.succ_mul]; omega), ← this]
      congr 1
      rw [h0, Nat.succ_mul]
      omega

theorem flat_len {rows : List (List AV)} {sz : Nat} (hr : ∀ r ∈ rows, r.length = sz) : rows.flatten.length = rows.length * sz := by
  induction rows with
  | nil => simp
  | cons r0 rest ih =>
    simp only [List.flatten_cons, List.length_append, List.length_cons]
    rw [ih (fun r h => hr r (by simp [h])), hr r0 (by simp), Nat.succ_mul]
    omega

/-- A row of one's own, cell by cell. -/
theorem row_cell {id : Id} {wr fl : Bool} {e sz : Nat} {rows : List (List AV)} (hr : HRep C) (h : hget C.H id = some (.row wr fl e sz rows)) {i j : Nat} {row : List AV} {av : AV} (hi : rows[i]? = some row) (hj : row[j]? = some av) :
    ∃ g v, blk (C.φ id) = some g ∧ C.w.cell? ⟨g, i * sz + j, none⟩ = some v ∧ Rep C av v ∧ isCell av = true ∧ C.w.frozen? ⟨g, i * sz + j, none⟩ = false := by
  obtain ⟨h0, h1, h2, xs, h3, h4⟩ := hr.obj id _ h
  have hrow := h1 row (List.mem_of_getElem? hi)
  have hjs : j < sz := by have := (List.getElem?_eq_some_iff.1 hj).1; omega
  have hf := rows_flat h1 hi j hjs
  rw [hj] at hf
  have hlt := (List.getElem?_eq_some_iff.1 hf).1
  have hx : xs[i * sz + j]? = some (xs.getD (i * sz + j) undef) := by
    have : i * sz + j < xs.length := by rw [← h4.1]; exact hlt
    simp [List.getD, List.getElem?_eq_getElem this]
  rcases h3.2 with ⟨hv, hn⟩ | ⟨g, cap, cur, hv, _, hh, hnc, _, hcs, htake⟩
  · have : rows = [] := List.eq_nil_of_length_eq_zero hn
    subst this
    simp at hi
  · refine ⟨g, xs.getD (i * sz + j) undef, by rw [hv]; rfl, ?_, h4.2 _ _ _ hf hx, h2 _ _ hf, by simp [World.frozen?, hh]⟩
    have hlt2 : i * sz + j < rows.length * sz := by rw [h4.1, h3.1] at hlt; exact hlt
    have hx' := hx
    rw [← htake, List.getElem?_take, if_pos hlt2, Array.getElem?_toList] at hx'
    simp only [World.cell?, hh]
    rw [← htake] 
    simpa using hx'

theorem box_cell {id : Id} {cells : List AV} (hr : HRep C) (h : hget C.H id = some (.box cells)) {j : Nat} {av : AV} (hj : cells[j]? = some av) :
    ∃ g v, blk (C.φ id) = some g ∧ C.w.cell? ⟨g, j, none⟩ = some v ∧ Rep C av v ∧ isCell av = true ∧ C.w.frozen? ⟨g, j, none⟩ = false := by
  obtain ⟨h0, g, cs, e, h1, h2, h3⟩ := hr.obj id _ h
  have hlt := (List.getElem?_eq_some_iff.1 hj).1
  have hl : j < cs.size := by have := h3.1; simp at this; omega
  have hx : cs.toList[j]? = some cs[j] := by simp [hl]
  exact ⟨g, cs[j], by rw [h1]; rfl, by simp [World.cell?, h2, hl], h3.2 j _ _ hj hx, h0 j _ hj, by simp [World.frozen?, h2]⟩

/-- What a load from an object gives. -/
theorem loadObj_cells {id : Id} {ob : AObj} {n i j m : Nat} {cs : List AV} {v : Value} (hr : HRep C) (h : hget C.H id = some ob) (hl : loadObj ob n i j m = some cs) (hm : cs.length = m) (hv : Rep C (.ref id n i j) v) :
    ∃ g, v = .pointer (some ⟨g, i * cellsz ob + j, none⟩) ∧ blk (C.φ id) = some g ∧ ∃ us : List Value, RepL C cs us ∧ Cells cs ∧ (∀ k u, us[k]? = some u → C.w.cell? ⟨g, i * cellsz ob + j + k, none⟩ = some u) := by
  have hsize : asize ob = n := by
    cases ob with
    | row wr fl e sz rows => simp only [loadObj] at hl; split at hl; · rename_i hn; exact hn
                             · cases hl
    | box cells => simp only [loadObj] at hl; split at hl; · rename_i hn; exact hn.1.symm
                   · cases hl
    | map es => simp [loadObj] at hl
  cases hv with
  | ref _ _ _ _ _ ha hs ho =>
    obtain ⟨g, hg, hvv⟩ := (ho ob h).2 hsize
    refine ⟨g, hvv, hg, ?_⟩
    have key : ∀ k av, cs[k]? = some av → ∃ u, C.w.cell? ⟨g, i * cellsz ob + j + k, none⟩ = some u ∧ Rep C av u ∧ isCell av = true := by
      intro k av hk
      cases ob with
      | row wr fl e sz rows =>
        simp only [loadObj] at hl
        split at hl
        · cases hri : rows[i]? with
          | none => rw [hri] at hl; simp at hl
          | some row =>
            rw [hri] at hl
            simp only [Option.map_some, Option.some.injEq] at hl
            subst hl
            rw [List.getElem?_take] at hk
            split at hk
            · rw [List.getElem?_drop] at hk
              obtain ⟨g', u, h1, h2, h3, h4, _⟩ := row_cell hr h hri hk
              rw [hg] at h1; injection h1 with h1; subst h1
              exact ⟨u, by simpa [cellsz, Nat.add_assoc] using h2, h3, h4⟩
            · cases hk
        · cases hl
      | box cells =>
        simp only [loadObj] at hl
        split at hl
        · rename_i hn
          injection hl with hl
          subst hl
          rw [List.getElem?_take] at hk
          split at hk
          · rw [List.getElem?_drop] at hk
            obtain ⟨g', u, h1, h2, h3, h4, _⟩ := box_cell hr h hk
            rw [hg] at h1; injection h1 with h1; subst h1
            exact ⟨u, by simpa [cellsz, Nat.add_assoc] using h2, h3, h4⟩
          · cases hk
        · cases hl
      | map es => simp [loadObj] at hl
    refine ⟨(List.range cs.length).map fun k => (C.w.cell? ⟨g, i * cellsz ob + j + k, none⟩).getD undef, ⟨by simp, fun k av u e1 e2 => ?_⟩, fun k av e1 => ?_, fun k u e2 => ?_⟩
    · obtain ⟨u', h1, h2, h3⟩ := key k av e1
      have hk := (List.getElem?_eq_some_iff.1 e1).1
      simp [hk, h1] at e2
      subst e2
      exact h2
    · obtain ⟨u', h1, h2, h3⟩ := key k av e1
      exact h3
    · have hk : k < cs.length := by have := (List.getElem?_eq_some_iff.1 e2).1; simpa using this
      obtain ⟨u', h1, h2, h3⟩ := key k cs[k] (List.getElem?_eq_getElem hk)
      simp [hk, h1] at e2
      subst e2
      exact h1

theorem run_loadVar' {t m : Nat} {agg : Bool} {ad : Addr} {us : List Value} {w : World} (ha : aggIs P t agg = true) (hs : sizeIs P t m = true) (hsp : ad.spot = none) (hl : us.length = m) (hm : agg = true ∨ m = 1) (hc : ∀ k u, us[k]? = some u → w.cell? ⟨ad.block, ad.off + k, none⟩ = some u) :
    (loadVar t ad).run P w = .ok (if agg then .agg us.toArray else us.headD undef) w := by
  have hc' : ∀ k u, us[k]? = some u → w.cell? (ad.add k) = some u := fun k u e => by rw [add_none hsp]; exact hc k u e
  simp only [loadVar, Sem.run_bind, run_isAgg ha, Result.andThen_ok]
  cases agg with
  | true =>
    have := run_loadCells_list (P := P) w ad us hc'
    rw [hl] at this
    simp [run_sizeOf' hs, this]
  | false =>
    have hm1 : m = 1 := by simpa using hm
    obtain ⟨u, rfl⟩ := List.length_eq_one_iff.1 (hl.trans hm1)
    have := hc 0 u rfl
    have e0 : (⟨ad.block, ad.off + 0, none⟩ : Addr) = ad := by cases ad; simp_all
    rw [e0] at this
    simp [this]

theorem ok_load {agg : Bool} {m : Nat} {p : AX} (sim : SimE nt s.env C a) (hH : C.H = s.heap) (hr : HRep C) (hc : chkIns P o (.load agg m p) = true) (h : ains (.load agg m p) s = some (av, s')) :
    OpRes C (s.p ++ [s.k]) ((execOp a.eval o).run P C.w) av s'.heap := by
  simp only [ains] at h
  simp only [chkIns] at hc
  split at hc
  · rename_i t x eo
    simp only [Bool.and_eq_true, Bool.or_eq_true, beq_iff_eq] at hc
    obtain ⟨⟨⟨c1, c2⟩, c3⟩, c4⟩ := hc
    have hv := rep_opd sim c1
    split at h
    · rename_i cs ep
      rw [ep] at hv
      split at h
      · rename_i hm
        cases hof : ofCells agg (cs.take m) with
        | none => rw [hof] at h; simp at h
        | some av' =>
          rw [hof] at h
          simp only [Option.map_some, Option.some.injEq, Prod.mk.injEq] at h
          obtain ⟨rfl, rfl⟩ := h
          generalize hx : a.eval x = xv at hv
          cases hv with
          | rp _ ad vals hs hf hv' =>
            have hus : RepL C (cs.take m) ((List.range m).map vals) := by
              refine ⟨by simp; omega, fun j av u e1 e2 => ?_⟩
              rw [List.getElem?_take] at e1
              split at e1
              · rename_i hj
                simp [hj] at e2
                subst e2
                exact hv' j av e1
              · cases e1
            have hcl : Cells (cs.take m) := by
              intro j av e1
              rw [List.getElem?_take] at e1
              split at e1
              · exact (hf j av e1).1
              · cases e1
            have hrun := run_loadVar' (w := C.w) (us := (List.range m).map vals) c2 c3 hs (by simp) c4 (fun k u e => by
              have hk : k < m := by have := (List.getElem?_eq_some_iff.1 e).1; simpa using this
              simp [hk] at e
              subst e
              have hk' : k < cs.length := by omega
              exact (hf k cs[k] (List.getElem?_eq_getElem hk')).2.1)
            rcases ofCells_rep hus hcl hof with ⟨rfl, r⟩ | ⟨rfl, u, hu, r⟩
            · exact .pure hr (by simp [execOp, eo, Instr.loadAt, Instr.sureAddr, hx, hrun]) r hH
            · rw [hu] at hrun
              exact .pure hr (v := u) (by simp [execOp, eo, Instr.loadAt, Instr.sureAddr, hx, hrun]) r hH
      · cases h
    · rename_i id n i j ep
      rw [ep] at hv
      split at h
      · rename_i ob eob
        rw [← hH] at eob
        split at h
        · rename_i cs ecs
          split at h
          · rename_i hm
            cases hof : ofCells agg cs with
            | none => rw [hof] at h; simp at h
            | some av' =>
              rw [hof] at h
              simp only [Option.map_some, Option.some.injEq, Prod.mk.injEq] at h
              obtain ⟨rfl, rfl⟩ := h
              obtain ⟨g, e1, e2, us, h1, h2, h3⟩ := loadObj_cells hr eob ecs hm hv
              have hrun := run_loadVar' (w := C.w) (ad := ⟨g, i * cellsz ob + j, none⟩) (us := us) c2 c3 rfl (by rw [← h1.1]; exact hm) c4 h3
              rcases ofCells_rep h1 h2 hof with ⟨rfl, r⟩ | ⟨rfl, u, hu, r⟩
              · exact .pure hr (by simp [execOp, eo, Instr.loadAt, Instr.sureAddr, e1, hrun]) r hH
              · rw [hu] at hrun
                exact .pure hr (v := u) (by simp [execOp, eo, Instr.loadAt, Instr.sureAddr, e1, hrun]) r hH
          · cases h
        · cases h
      · cases h
    · cases h
  · cases hc

theorem ok_nilck {x : AX} (sim : SimE nt s.env C a) (hH : C.H = s.heap) (hr : HRep C) (hc : chkIns P o (.nilck x) = true) (h : ains (.nilck x) s = some (av, s')) :
    OpRes C (s.p ++ [s.k]) ((execOp a.eval o).run P C.w) av s'.heap := by
  simp only [ains] at h
  simp only [chkIns] at hc
  split at hc
  · rename_i y eo
    have hv := rep_opd sim hc
    generalize hy : a.eval y = yv at hv
    split at h
    · rename_i cs e
      simp only [Option.some.injEq, Prod.mk.injEq] at h
      obtain ⟨rfl, rfl⟩ := h
      rw [e] at hv
      cases hv with
      | rp _ ad vals hs hf hv' => exact .pure hr (v := .pointer (some ad)) (by simp [execOp, eo, hy]) (.rp cs ad vals hs hf hv') hH
    · rename_i id n i j e
      simp only [Option.some.injEq, Prod.mk.injEq] at h
      obtain ⟨rfl, rfl⟩ := h
      rw [e] at hv
      have hs : ∃ ad, yv = .pointer (some ad) := by cases hv with | ref _ _ _ _ _ ha hs ho => exact hs
      obtain ⟨ad, rfl⟩ := hs
      exact .pure hr (v := .pointer (some ad)) (by simp [execOp, eo, hy]) hv hH
    · rename_i f caps e
      simp only [Option.some.injEq, Prod.mk.injEq] at h
      obtain ⟨rfl, rfl⟩ := h
      rw [e] at hv
      obtain ⟨vs, rfl, hl⟩ := hv.func_inv
      exact .pure hr (v := .func (.func f) #[] vs.toArray) (by simp [execOp, eo, hy]) hv hH
    · cases h
  · cases hc

theorem ok_un {op : UnOp} {x : AX} (sim : SimE nt s.env C a) (hH : C.H = s.heap) (hr : HRep C) (hc : chkIns P o (.un op x) = true) (h : ains (.un op x) s = some (av, s')) :
    OpRes C (s.p ++ [s.k]) ((execOp a.eval o).run P C.w) av s'.heap := by
  simp only [ains] at h
  simp only [chkIns] at hc
  split at hc
  · rename_i op' t x' eo
    simp only [Bool.and_eq_true, decide_eq_true_eq] at hc
    obtain ⟨rfl, c1⟩ := hc
    have hv := rep_opd sim c1
    cases hu : aun op' (x.ev s.env) with
    | none => rw [hu] at h; simp at h
    | some r =>
      rw [hu] at h
      simp only [Option.map_some, Option.some.injEq, Prod.mk.injEq] at h
      obtain ⟨rfl, rfl⟩ := h
      unfold aun at hu
      split at hu
      · rename_i b e
        injection hu with hu
        subst hu
        rw [e] at hv
        exact .pure hr (v := .bool (!b)) (by simp [execOp, eo, hv.bool_inv, Op.unary]) (.bool _) hH
      · rename_i k n e
        injection hu with hu
        subst hu
        rw [e] at hv
        exact .pure hr (v := .int k (k.wrap (0 - n))) (by simp [execOp, eo, hv.int_inv, Op.unary, Op.intArith]) (.int _ _) hH
      · cases hu
  · cases hc

theorem ok_conv {k : IntKind} {x : AX} (sim : SimE nt s.env C a) (hH : C.H = s.heap) (hr : HRep C) (hc : chkIns P o (.conv k x) = true) (h : ains (.conv k x) s = some (av, s')) :
    OpRes C (s.p ++ [s.k]) ((execOp a.eval o).run P C.w) av s'.heap := by
  simp only [ains] at h
  simp only [chkIns] at hc
  split at hc
  · rename_i src dst x' eo
    simp only [Bool.and_eq_true] at hc
    obtain ⟨⟨c1, c2⟩, c3⟩ := hc
    have hv := rep_opd sim c1
    split at h
    · rename_i k0 n e
      simp only [Option.some.injEq, Prod.mk.injEq] at h
      obtain ⟨rfl, rfl⟩ := h
      rw [e] at hv
      obtain ⟨d, hd⟩ := Option.isSome_iff_exists.1 c2
      split at c3
      · rename_i k' hk'
        simp only [decide_eq_true_eq] at c3
        subst c3
        exact .pure hr (v := .int k' (k'.wrap n)) (by simp [execOp, eo, hv.int_inv, convert, run_underlying hd, run_underlying hk', Conv.intToInt]) (.int _ _) hH
      · cases c3
    · cases h
  · cases hc

theorem ok_faddr_core {off : Nat} {x : AX} {x' : Operand} (sim : SimE nt s.env C a) (hH : C.H = s.heap) (hr : HRep C) (c1 : opdOK x' x = true)
    (hrun : ∀ ad : Addr, a.eval x' = .pointer (some ad) → (execOp a.eval o).run P C.w = .ok (.value (.pointer (some (ad.add off)))) C.w) (h : ains (.faddr off x) s = some (av, s')) :
    OpRes C (s.p ++ [s.k]) ((execOp a.eval o).run P C.w) av s'.heap := by
  simp only [ains] at h
  have hv := rep_opd sim c1
  generalize hx : a.eval x' = xv at hv
  split at h
  · rename_i cs e
    simp only [Option.some.injEq, Prod.mk.injEq] at h
    obtain ⟨rfl, rfl⟩ := h
    rw [e] at hv
    cases hv with
    | rp _ ad vals hs hf' hv' =>
      refine .pure hr (v := .pointer (some (ad.add off))) (hrun ad hx) ?_ hH
      rw [add_none hs]
      refine .rp _ _ (fun j => vals (off + j)) rfl (fun j av e1 => ?_) (fun j av e1 => ?_)
      · rw [List.getElem?_drop] at e1
        have := hf' _ _ e1
        refine ⟨this.1, ?_⟩
        have h2 := this.2
        unfold Fro at h2 ⊢
        simpa [Nat.add_assoc] using h2
      · rw [List.getElem?_drop] at e1
        exact hv' _ _ e1
  · rename_i id n i j e
    simp only [Option.some.injEq, Prod.mk.injEq] at h
    obtain ⟨rfl, rfl⟩ := h
    rw [e] at hv
    cases hv with
    | ref _ _ _ _ _ ha hs ho =>
      obtain ⟨ad, rfl⟩ := hs
      refine .pure hr (v := .pointer (some (ad.add off))) (hrun ad hx) ?_ hH
      refine .ref _ _ _ _ _ ha ⟨_, rfl⟩ fun ob e1 => ⟨(ho ob e1).1, fun hn => ?_⟩
      obtain ⟨g, h1, h2⟩ := (ho ob e1).2 hn
      injection h2 with h2
      injection h2 with h2
      subst h2
      exact ⟨g, h1, by rw [add_none rfl]; simp [Nat.add_assoc]⟩
  · cases h
theorem ok_faddr {off : Nat} {x : AX} (sim : SimE nt s.env C a) (hH : C.H = s.heap) (hr : HRep C) (hc : chkIns P o (.faddr off x) = true) (h : ains (.faddr off x) s = some (av, s')) :
    OpRes C (s.p ++ [s.k]) ((execOp a.eval o).run P C.w) av s'.heap := by
  simp only [chkIns] at hc
  split at hc
  · rename_i t x' f eo
    simp only [Bool.and_eq_true] at hc
    obtain ⟨c1, c2⟩ := hc
    split at c2
    · rename_i fs hu
      split at c2
      · rename_i fl hf
        simp only [Bool.and_eq_true, beq_iff_eq] at c2
        obtain ⟨rfl, c2⟩ := c2
        refine ok_faddr_core sim hH hr c1 (fun ad e => ?_) h
        split at c2
        · rename_i i hi
          have hz : i.size ≠ 0 := by simpa using c2
          simp [execOp, eo, e, Instr.fieldAt, run_underlying hu, hf, Instr.sureAddr, fieldPlace, sizeOf, typeInfo, hi, hz]
        · cases c2
      · cases c2
    · cases c2
  · rename_i t x' n eo
    simp only [Bool.and_eq_true] at hc
    obtain ⟨c1, c2⟩ := hc
    split at c2
    · rename_i len e hu
      split at c2
      · rename_i i hi
        simp only [decide_eq_true_eq] at c2
        obtain ⟨n0, n1, rfl⟩ := c2
        refine ok_faddr_core sim hH hr c1 (fun ad e => ?_) h
        have ev : a.eval (.const (.int .i64 n)) = .int .i64 n := rfl
        simp [execOp, eo, e, ev, Instr.indexAt, asIntOf, asInt, run_underlying hu, Instr.sureAddr, sizeOf, typeInfo, hi, n0, n1]
      · cases c2
    · cases c2
  · cases hc

theorem ok_ext {x : AX} {i : Nat} (sim : SimE nt s.env C a) (hH : C.H = s.heap) (hr : HRep C) (hc : chkIns P o (.ext x i) = true) (h : ains (.ext x i) s = some (av, s')) :
    OpRes C (s.p ++ [s.k]) ((execOp a.eval o).run P C.w) av s'.heap := by
  simp only [ains] at h
  simp only [chkIns] at hc
  split at hc
  · rename_i x' i' eo
    simp only [Bool.and_eq_true, beq_iff_eq] at hc
    obtain ⟨c1, rfl⟩ := hc
    have hv := rep_opd sim c1
    split at h
    · rename_i vs e
      cases hvi : vs[i']? with
      | none => rw [hvi] at h; simp at h
      | some v' =>
        rw [hvi] at h
        simp only [Option.map_some, Option.some.injEq, Prod.mk.injEq] at h
        obtain ⟨rfl, rfl⟩ := h
        rw [e] at hv
        obtain ⟨us, hu, hl⟩ := hv.tuple_inv
        have hlt := (List.getElem?_eq_some_iff.1 hvi).1
        have hlt' : i' < us.length := by rw [← hl.1]; exact hlt
        have hui : us[i']? = some us[i'] := List.getElem?_eq_getElem hlt'
        exact .pure hr (v := us[i']) (by simp [execOp, eo, hu, Instr.extract, hui]) (hl.2 _ _ _ hvi hui) hH
    · cases h
  · cases hc

theorem ok_mkm (sim : SimE nt s.env C a) (hH : C.H = s.heap) (hr : HRep C) (hq : ∀ id, (s.p ++ [s.k]) <+: id → C.Av id) (hc : chkIns P o .mkm = true) (h : ains .mkm s = some (av, s')) :
    OpRes C (s.p ++ [s.k]) ((execOp a.eval o).run P C.w) av s'.heap := by
  simp only [ains, Option.some.injEq, Prod.mk.injEq] at h
  obtain ⟨rfl, rfl⟩ := h
  simp only [chkIns] at hc
  split at hc
  · rename_i t eo
    refine .new (o := .map []) (v := .map (some C.w.heap.size)) (w := C.w.alloc (.map #[] 0)) hr hq ⟨rfl, rfl⟩ (Ext.refl C) ?_ (by simp [St.add, hH]) (by simp [alloc_heap]) (fun k hk => alloc_old _ _ _ hk) rfl rfl rfl (by intro g hg; simp [blk] at hg; omega) (fun _ => ?_) (fun _ => ?_)
    · simp [execOp, eo, Instr.makeMap]
    · refine .map _ _ (fun h => h.2 (List.prefix_refl _)) ⟨_, rfl⟩ fun o' e k => ?_
      exact (put_self _ _ _ _ _ _).symm
    · exact ⟨C.w.heap.size, #[], 0, put_self _ _ _ _ _ _, alloc_new _ _, .nil, .nil⟩
  · cases hc

theorem opds_rep (sim : SimE nt s.env C a) : ∀ {xs : List Operand} {ys : List AX}, opdsOK xs ys = true → RepL C (agetl ys s.env) (xs.map a.eval)
  | [], [], _ => .nil
  | x :: xs, y :: ys, h => by
    simp only [opdsOK, Bool.and_eq_true] at h
    exact .cons (rep_opd sim h.1) (opds_rep sim h.2)
  | [], _ :: _, h => by simp [opdsOK] at h
  | _ :: _, [], h => by simp [opdsOK] at h

theorem ok_mkf {f : Nat} {caps : List AX} (sim : SimE nt s.env C a) (hH : C.H = s.heap) (hr : HRep C) (hc : chkIns P o (.mkf f caps) = true) (h : ains (.mkf f caps) s = some (av, s')) :
    OpRes C (s.p ++ [s.k]) ((execOp a.eval o).run P C.w) av s'.heap := by
  simp only [ains, Option.some.injEq, Prod.mk.injEq] at h
  obtain ⟨rfl, rfl⟩ := h
  simp only [chkIns] at hc
  split at hc
  · rename_i f' first caps' eo
    simp only [Bool.and_eq_true, beq_iff_eq] at hc
    obtain ⟨⟨rfl, c1⟩, c2⟩ := hc
    have hf : first = #[] := by simpa using c1
    subst hf
    have hl := opds_rep sim c2
    refine .pure hr (v := .func (.func f') #[] (caps'.toList.map a.eval).toArray) ?_ (.func _ _ _ hl.1 hl.2) hH
    have e2 : caps'.map a.eval = (caps'.toList.map a.eval).toArray := by apply Array.ext'; simp
    simp [execOp, eo, Instr.makeFunc, e2]
  · cases hc

end
end Go.Proofs.Abs

set_option linter.all false
set_option linter.constructorNameAsVariable false
set_option linter.defProp false
set_option linter.unusedVariables false
set_option linter.unusedSimpArgs false
namespace Go.Proofs.Abs
open Go

section
variable {P : Program} {o : Oper} {a : Act} {C : Ctx} {nt : Nat} {s s' : St} {av : AV}

theorem run_part' {t m off : Nat} {agg : Bool} {vs : List Value} {w : World} (ha : aggIs P t agg = true) (hs : sizeIs P t m = true) (hm : agg = true ∨ m = 1) (hl : off + m ≤ vs.length) :
    (part t vs.toArray off).run P w = .ok (if agg then .agg ((vs.drop off).take m).toArray else ((vs.drop off).take m).headD undef) w := by
  simp only [part, Sem.run_bind, run_isAgg ha, Result.andThen_ok]
  cases agg with
  | true =>
    have : vs.toArray.extract off (off + m) = ((vs.drop off).take m).toArray := by
      apply Array.ext'
      simp [List.extract_eq_take_drop]
    simp [run_sizeOf' hs, this]
  | false =>
    have hm1 : m = 1 := by simpa using hm
    subst hm1
    have : off < vs.length := by omega
    have e : (vs.drop off).take 1 = [vs[off]] := by
      rw [List.drop_eq_getElem_cons this]; rfl
    simp [e, this]

theorem ok_fld {agg : Bool} {off m : Nat} {x : AX} (sim : SimE nt s.env C a) (hH : C.H = s.heap) (hr : HRep C) (hc : chkIns P o (.fld agg off m x) = true) (h : ains (.fld agg off m x) s = some (av, s')) :
    OpRes C (s.p ++ [s.k]) ((execOp a.eval o).run P C.w) av s'.heap := by
  simp only [ains] at h
  simp only [chkIns] at hc
  split at hc
  · rename_i t x' f eo
    simp only [Bool.and_eq_true] at hc
    obtain ⟨c1, c2⟩ := hc
    split at c2
    · rename_i fs hu
      split at c2
      · rename_i fl hf
        simp only [Bool.and_eq_true, Bool.or_eq_true, beq_iff_eq] at c2
        obtain ⟨⟨⟨rfl, c3⟩, c4⟩, c5⟩ := c2
        have hv := rep_opd sim c1
        split at h
        · rename_i cs e
          rw [e] at hv
          obtain ⟨vs, hx, h1, h2⟩ := hv.agg_inv
          split at h
          · rename_i hle
            cases hof : ofCells agg ((cs.drop fl.offset).take m) with
            | none => rw [hof] at h; simp at h
            | some av' =>
              rw [hof] at h
              simp only [Option.map_some, Option.some.injEq, Prod.mk.injEq] at h
              obtain ⟨rfl, rfl⟩ := h
              have hrun := run_part' (w := C.w) (vs := vs) c3 c4 c5 (by rw [← h1.1]; exact hle)
              rcases ofCells_rep ((h1.drop fl.offset).take m) ((h2.drop fl.offset).take m) hof with ⟨rfl, r⟩ | ⟨rfl, u, hu', r⟩
              · exact .pure hr (by simp [execOp, eo, Instr.field, run_underlying hu, hf, hx, asAgg, hrun]) r hH
              · rw [hu'] at hrun
                exact .pure hr (v := u) (by simp [execOp, eo, Instr.field, run_underlying hu, hf, hx, asAgg, hrun]) r hH
          · cases h
        · cases h
      · cases c2
    · cases c2
  · cases hc

theorem ok_sidx {x i : AX} (sim : SimE nt s.env C a) (hH : C.H = s.heap) (hr : HRep C) (hc : chkIns P o (.sidx x i) = true) (h : ains (.sidx x i) s = some (av, s')) :
    OpRes C (s.p ++ [s.k]) ((execOp a.eval o).run P C.w) av s'.heap := by
  simp only [ains] at h
  simp only [chkIns] at hc
  split at hc
  · rename_i t x' i' eo
    simp only [Bool.and_eq_true] at hc
    obtain ⟨⟨c1, c2⟩, c3⟩ := hc
    have hv := rep_opd sim c1
    have hi := rep_opd sim c2
    split at h
    · rename_i b k n e1 e2
      rw [e1] at hv
      rw [e2] at hi
      split at h
      · rename_i hn
        cases hb : b[n.toNat]? with
        | none => rw [hb] at h; simp at h
        | some c =>
          rw [hb] at h
          simp only [Option.map_some, Option.some.injEq, Prod.mk.injEq] at h
          obtain ⟨rfl, rfl⟩ := h
          split at c3
          · rename_i hu
            refine .pure hr (v := .int .u8 c.toNat) ?_ (.int _ _) hH
            simp [execOp, eo, Instr.index, asIntOf, hv.str_inv, hi.int_inv, run_underlying hu, hn, hb]
          · cases c3
      · cases h
    · cases h
  · cases hc

theorem ok_iaddr {sz : Nat} {x i : AX} (sim : SimE nt s.env C a) (hH : C.H = s.heap) (hr : HRep C) (hc : chkIns P o (.iaddr sz x i) = true) (h : ains (.iaddr sz x i) s = some (av, s')) :
    OpRes C (s.p ++ [s.k]) ((execOp a.eval o).run P C.w) av s'.heap := by
  simp only [ains] at h
  simp only [chkIns] at hc
  split at hc
  · rename_i t x' i' eo
    simp only [Bool.and_eq_true] at hc
    obtain ⟨⟨c1, c2⟩, c3⟩ := hc
    split at c3
    · rename_i el hu
      obtain ⟨ti, hti, hsz⟩ := sizeIs_iff c3
      have hv := rep_opd sim c1
      have hi := rep_opd sim c2
      have hrun : ∀ (ad : Addr) (len cap : Nat) (k : IntKind) (n : Int), 0 ≤ n → n < len → (Instr.indexAt t (.slice (some ad) len cap) (.int k n)).run P C.w = .ok (.pointer (some (ad.add (n.toNat * sz)))) C.w := by
        intro ad len cap k n h0 h1
        simp [Instr.indexAt, asIntOf, run_underlying hu, h0, h1, sizeOf, typeInfo, hti, hsz]
      split at h
      · rename_i sz' rows k n e1 e2
        rw [e1] at hv
        rw [e2] at hi
        have hi' := hi.int_inv
        split at h
        · rename_i hcond
          obtain ⟨rfl, hn⟩ := hcond
          cases hrow : rows[n.toNat]? with
          | none => rw [hrow] at h; simp at h
          | some row =>
            rw [hrow] at h
            simp only [Option.map_some, Option.some.injEq, Prod.mk.injEq] at h
            obtain ⟨rfl, rfl⟩ := h
            have hlt := (List.getElem?_eq_some_iff.1 hrow).1
            generalize hx : a.eval x' = xv at hv
            cases hv with
            | list _ _ base cap vals h0 hcap hz hrr hb hf hvv =>
              obtain ⟨ad, rfl, hsp⟩ := hb (by intro h; subst h; simp at hlt)
              have hrl := hrr row (List.mem_of_getElem? hrow)
              refine .pure hr (v := .pointer (some (ad.add (n.toNat * sz')))) ?_ ?_ hH
              · simp [execOp, eo, hx, hi', hrun ad rows.length cap k n hn (by omega)]
              · rw [add_none hsp]
                refine .rp _ _ (fun j => vals (n.toNat * sz' + j)) rfl (fun j av e3 => ?_) (fun j av e3 => ?_)
                · have hj : j < sz' := by have := (List.getElem?_eq_some_iff.1 e3).1; omega
                  have hfl := rows_flat hrr hrow j hj
                  rw [e3] at hfl
                  have := hf _ _ hfl
                  refine ⟨this.1, ?_⟩
                  have h2 := this.2 ad rfl
                  unfold Fro at h2 ⊢
                  simpa [Nat.add_assoc] using h2
                · have hj : j < sz' := by have := (List.getElem?_eq_some_iff.1 e3).1; omega
                  have hfl := rows_flat hrr hrow j hj
                  rw [e3] at hfl
                  exact hvv _ _ hfl
        · cases h
      · rename_i id len k n e1 e2
        rw [e1] at hv
        rw [e2] at hi
        have hi' := hi.int_inv
        split at h
        · rename_i wr fl e sz' rows ho
          rw [← hH] at ho
          split at h
          · rename_i hcond
            obtain ⟨rfl, hlen, hn, hnl⟩ := hcond
            simp only [Option.some.injEq, Prod.mk.injEq] at h
            obtain ⟨rfl, rfl⟩ := h
            generalize hx : a.eval x' = xv at hv
            cases hv with
            | own _ _ _ ha hs hoo =>
              rcases (hoo _ ho).2 hlen with hhd | ⟨hn0, _⟩
              case inr => omega
              obtain ⟨h0, h1, h2, xs, h3, h4⟩ := hr.obj id _ ho
              rcases h3.2 with ⟨hv1, hn1⟩ | ⟨g, cap, cur, hv1, _, hh, hnc, _, hcs, htake⟩
              · omega
              · rw [hv1] at hhd
                refine .pure hr (v := .pointer (some ⟨g, n.toNat * sz', none⟩)) ?_ ?_ hH
                · have := hrun ⟨g, 0, none⟩ rows.length cap k n hn (by omega)
                  rw [add_none rfl] at this
                  simp only [Nat.zero_add] at this
                  simp [execOp, eo, hx, hhd, hi', this]
                · refine .ref _ _ _ _ _ ha ⟨_, rfl⟩ fun ob e3 => ?_
                  rw [ho] at e3
                  injection e3 with e3
                  subst e3
                  exact ⟨by simp [asize]; omega, fun _ => ⟨g, by rw [hv1]; rfl, by simp [cellsz]⟩⟩
          · cases h
        · cases h
      · cases h
    · cases c3
  · cases hc

/-- The elements of a slice that is read, as they lie. -/
theorem rowsOf_rep {sz : Nat} {v : AV} {u : Value} {rows : List (List AV)} (hr : HRep C) (h : rowsOf C.H v sz = some rows) (hv : Rep C v u) (hsz : 0 < sz) :
    ∃ base cap, u = .slice base rows.length cap ∧ rows.length ≤ cap ∧ (∀ r ∈ rows, r.length = sz) ∧ Cells rows.flatten ∧
      ∃ xs, RepL C rows.flatten xs ∧ ∀ ad, base = some ad → (rows ≠ [] → ad.spot = none) ∧ ∀ (j : Nat) x, xs[j]? = some x → C.w.cell? (ad.add j) = some x := by
  unfold rowsOf at h
  split at h
  · rename_i sz' rows'
    split at h
    · rename_i hs
      subst hs
      injection h with h
      subst h
      cases hv with
      | list _ _ base cap vals h0 hcap hz hrr hb hf hvv =>
        refine ⟨base, cap, rfl, hcap, hrr, fun j av e => (hf j av e).1, (List.range rows'.flatten.length).map vals, ⟨by simp, fun j av x e1 e2 => ?_⟩, fun ad ead => ⟨fun hne => ?_, fun j x e2 => ?_⟩⟩
        · have hj := (List.getElem?_eq_some_iff.1 e1).1
          rw [List.getElem?_map, List.getElem?_range hj] at e2
          simp only [Option.map_some, Option.some.injEq] at e2
          subst e2
          exact hvv j av e1
        · obtain ⟨ad', h1, h2⟩ := hb hne
          rw [ead] at h1; injection h1 with h1; subst h1; exact h2
        · have hj : j < rows'.flatten.length := by have := (List.getElem?_eq_some_iff.1 e2).1; simpa using this
          have hne : rows' ≠ [] := by intro hh; subst hh; simp at hj
          obtain ⟨ad', h1, h2⟩ := hb hne
          rw [ead] at h1; injection h1 with h1; subst h1
          rw [List.getElem?_map, List.getElem?_range hj] at e2
          simp only [Option.map_some, Option.some.injEq] at e2
          subst e2
          rw [add_none h2]
          exact ((hf j _ (List.getElem?_eq_getElem hj)).2 ad ead).1
    · cases h
  · injection h with h
    subst h
    cases hv
    exact ⟨none, 0, rfl, Nat.le_refl _, by simp, by intro j av; simp, [], .nil, by simp⟩
  · injection h with h
    subst h
    cases hv with
    | emp ad cap => exact ⟨some ad, cap, rfl, Nat.zero_le _, by simp, by intro j av; simp, [], .nil, by simp⟩
  · rename_i id n
    split at h
    · rename_i wr fl e sz' rows' ho
      split at h
      · rename_i hc
        obtain ⟨rfl, hn⟩ := hc
        injection h with h
        subst h
        cases hv with
        | own _ _ _ ha hs hoo =>
          obtain ⟨h0, h1, h2, xs, h3, h4⟩ := hr.obj id _ ho
          rcases (hoo _ ho).2 hn with hhd | ⟨hn0, _, b, rfl⟩
          case inr =>
            have hrz : rows' = [] := List.eq_nil_of_length_eq_zero (by omega)
            subst hrz
            have hxz : xs = [] := List.eq_nil_of_length_eq_zero (by rw [h3.1]; simp)
            subst hxz
            exact ⟨b, 0, rfl, Nat.le_refl _, h1, h2, [], h4, fun ad _ => ⟨fun hne => absurd rfl hne, fun j x e2 => by simp at e2⟩⟩
          rcases h3.2 with ⟨hv1, hn1⟩ | ⟨g, cap, cur, hv1, _, hh, hnc, _, hcs, htake⟩
          · rw [hv1] at hhd
            subst hhd
            exact ⟨none, 0, by rw [hn1], by omega, h1, h2, xs, h4, by simp⟩
          · rw [hv1] at hhd
            subst hhd
            refine ⟨some ⟨g, 0, none⟩, cap, rfl, hnc, h1, h2, xs, h4, fun ad ead => ?_⟩
            injection ead with ead
            subst ead
            refine ⟨fun _ => rfl, fun j x e2 => ?_⟩
            have hj := (List.getElem?_eq_some_iff.1 e2).1
            rw [h3.1] at hj
            rw [← htake, List.getElem?_take, if_pos hj, Array.getElem?_toList] at e2
            rw [add_none rfl]
            simp [World.cell?, hh, e2]
      · cases h
    · cases h
  · cases h

theorem bnd_rep (sim : SimE nt s.env C a) {x : Option Operand} {y : Option AX} {d n : Nat} (h : opdOKo x y = true) (hb : bnd s.env y d = some n) :
    (x.map a.eval = none ∧ y = none ∧ n = d) ∨ ∃ k, x.map a.eval = some (.int k n) ∧ y.isSome = true := by
  cases x with
  | none =>
    cases y with
    | none => simp only [bnd, Option.some.injEq] at hb; exact .inl ⟨rfl, rfl, hb.symm⟩
    | some y => simp [opdOKo] at h
  | some x =>
    cases y with
    | none => simp [opdOKo] at h
    | some y =>
      simp only [opdOKo] at h
      have hv := rep_opd sim h
      simp only [bnd] at hb
      split at hb
      · rename_i k m e
        split at hb
        · rename_i hm
          injection hb with hb
          rw [e] at hv
          refine .inr ⟨k, ?_, rfl⟩
          simp only [Option.map_some, hv.int_inv]
          congr 2
          omega
        · cases hb
      · cases hb

theorem run_bounds {isSlice : Bool} {len cap l h m : Nat} {lo hi mx : Option Value} (w : World) (hlo : (lo = none ∧ l = 0) ∨ ∃ k, lo = some (.int k l)) (hhi : (hi = none ∧ h = len) ∨ ∃ k, hi = some (.int k h))
    (hmx : (mx = none ∧ m = cap) ∨ ∃ k, mx = some (.int k m)) (hmh : mx ≠ none → hi ≠ none) (h1 : l ≤ h) (h2 : h ≤ m) (h3 : m ≤ cap) : (Instr.sliceBounds isSlice len cap lo hi mx).run P w = .ok (l, h, m) w := by
  have hb : ∀ (k : IntKind) (x y : Nat) (code : BoundsCode), x ≤ y → (Instr.sliceBound (.int k x) y code).run P w = .ok x w := by
    intro k x y code hxy
    have := run_sliceBound (P := P) w k x y code (by omega) (by omega)
    simpa using this
  rcases hmx with ⟨rfl, rfl⟩ | ⟨km, rfl⟩
  · rcases hhi with ⟨rfl, rfl⟩ | ⟨kh, rfl⟩
    · rcases hlo with ⟨rfl, rfl⟩ | ⟨kl, rfl⟩
      · simp [Instr.sliceBounds]
      · simp [Instr.sliceBounds, hb _ _ _ _ h1]
    · rcases hlo with ⟨rfl, rfl⟩ | ⟨kl, rfl⟩
      · simp [Instr.sliceBounds, hb _ _ _ _ h2]
      · simp [Instr.sliceBounds, hb _ _ _ _ h2, hb _ _ _ _ h1]
  · rcases hhi with ⟨rfl, rfl⟩ | ⟨kh, rfl⟩
    · exact absurd rfl (hmh (by simp))
    · rcases hlo with ⟨rfl, rfl⟩ | ⟨kl, rfl⟩
      · simp [Instr.sliceBounds, hb _ _ _ _ h2, hb _ _ _ _ h3]
      · simp [Instr.sliceBounds, hb _ _ _ _ h2, hb _ _ _ _ h1, hb _ _ _ _ h3]

theorem ok_sslc {x : AX} {lo hi : Option AX} (sim : SimE nt s.env C a) (hH : C.H = s.heap) (hr : HRep C) (hc : chkIns P o (.sslc x lo hi) = true) (h : ains (.sslc x lo hi) s = some (av, s')) :
    OpRes C (s.p ++ [s.k]) ((execOp a.eval o).run P C.w) av s'.heap := by
  simp only [ains] at h
  simp only [chkIns] at hc
  split at hc
  · rename_i t x' lo' hi' eo
    simp only [Bool.and_eq_true] at hc
    obtain ⟨⟨⟨c1, c2⟩, c3⟩, c4⟩ := hc
    have hv := rep_opd sim c1
    split at h
    · rename_i b e
      rw [e] at hv
      split at h
      · rename_i hh ehh
        split at h
        · rename_i ll ell
          split at h
          · rename_i hcond
            simp only [Option.some.injEq, Prod.mk.injEq] at h
            obtain ⟨rfl, rfl⟩ := h
            split at c4
            · rename_i hu
              have b1 := bnd_rep sim c3 ehh
              have b2 := bnd_rep sim c2 ell
              have hrun := run_bounds (P := P) (isSlice := false) (len := b.size) (cap := b.size) (l := ll) (h := hh) (m := b.size) (lo := lo'.map a.eval) (hi := hi'.map a.eval) (mx := none) C.w
                (b2.imp (fun h => ⟨h.1, h.2.2⟩) (fun ⟨k, h, _⟩ => ⟨k, h⟩)) (b1.imp (fun h => ⟨h.1, h.2.2⟩) (fun ⟨k, h, _⟩ => ⟨k, h⟩)) (.inl ⟨rfl, rfl⟩) (by simp) hcond.1 hcond.2 (Nat.le_refl _)
              refine .pure hr (v := .string (b.extract ll hh)) ?_ (.str _) hH
              simp [execOp, eo, hv.str_inv, Instr.sliceAt, run_underlying hu, Instr.slice, hrun]
            · cases c4
          · cases h
        · cases h
      · cases h
    · cases h
  · cases hc

theorem Rep.list_inv {sz : Nat} {rows : List (List AV)} {u : Value} (h : Rep C (.list sz rows) u) : ∃ base cap, u = .slice base rows.length cap := by
  cases h with
  | list _ _ base cap => exact ⟨base, cap, rfl⟩

/-- A part of what is read for good. -/
theorem rep_part {sz : Nat} {rows : List (List AV)} {base : Option Addr} {cap : Nat} (h : Rep C (.list sz rows) (.slice base rows.length cap)) {l h' m : Nat} (h1 : l ≤ h') (h2 : h' ≤ rows.length) (h3 : h' ≤ m) (h4 : m ≤ cap) :
    Rep C (.list sz ((rows.take h').drop l)) (.slice (if m = l then base else base.map (·.add (l * sz))) (h' - l) (m - l)) := by
  cases h with
  | list _ _ _ _ vals h0 hcap hz hrr hb hf hvv =>
    have hlen : ((rows.take h').drop l).length = h' - l := by simp; omega
    have hrr' : ∀ r ∈ (rows.take h').drop l, r.length = sz := fun r hr => hrr r (List.mem_of_mem_take (List.mem_of_mem_drop hr))
    have hfl : ∀ j av, ((rows.take h').drop l).flatten[j]? = some av → rows.flatten[l * sz + j]? = some av := by
      intro j av e
      have hj := (List.getElem?_eq_some_iff.1 e).1
      rw [flat_len hrr', hlen] at hj
      have hdiv : j / sz < h' - l := Nat.div_lt_of_lt_mul (by rw [Nat.mul_comm]; exact hj)
      have hmod : j % sz < sz := Nat.mod_lt _ h0
      have ej : j = (j / sz) * sz + j % sz := by rw [Nat.mul_comm]; exact (Nat.div_add_mod j sz).symm
      have hrow : ((rows.take h').drop l)[j / sz]? = rows[l + j / sz]? := by
        rw [List.getElem?_drop, List.getElem?_take, if_pos (by omega)]
      have hlt : l + j / sz < rows.length := by omega
      have hrow2 : rows[l + j / sz]? = some rows[l + j / sz] := List.getElem?_eq_getElem hlt
      rw [hrow2] at hrow
      have f1 := rows_flat hrr' hrow (j % sz) hmod
      rw [← ej, e] at f1
      have f2 := rows_flat hrr hrow2 (j % sz) hmod
      rw [← f1] at f2
      rw [← f2, Nat.add_mul]
      congr 1
      omega
    have key := Rep.list (C := C) sz ((rows.take h').drop l) (if m = l then base else base.map (·.add (l * sz))) (m - l) (fun j => vals (l * sz + j)) h0 (by omega) (fun he => by
      have hbn : base = none := by
        split at he
        · exact he
        · cases base with
          | none => rfl
          | some ad => cases he
      have := hz hbn
      omega) hrr' (fun hne => ?_) (fun j av e => ⟨(hf _ _ (hfl j av e)).1, fun ad ead => ?_⟩) (fun j av e => hvv _ _ (hfl j av e))
    · rwa [hlen] at key
    · have hne' : rows ≠ [] := by intro hh; subst hh; simp at hne
      obtain ⟨ad, rfl, hsp⟩ := hb hne'
      have hml : m ≠ l := by
        intro hh
        apply hne
        apply List.eq_nil_of_length_eq_zero
        omega
      exact ⟨ad.add (l * sz), by simp [hml], by rw [add_none hsp]⟩
    · have hj := (List.getElem?_eq_some_iff.1 e).1
      rw [flat_len hrr', hlen] at hj
      have hml : m ≠ l := by
        intro hh
        have h0' : h' - l = 0 := by omega
        rw [h0', Nat.zero_mul] at hj
        exact Nat.not_lt_zero _ hj
      have hne' : rows ≠ [] := by
        intro hh
        subst hh
        have h0' : h' - l = 0 := by simp at h2; omega
        rw [h0', Nat.zero_mul] at hj
        exact Nat.not_lt_zero _ hj
      obtain ⟨ad0, rfl, hsp⟩ := hb hne'
      rw [if_neg hml] at ead
      injection ead with ead
      have := (hf _ _ (hfl j av e)).2 ad0 rfl
      subst ead
      show Fro C (ad0.add (l * sz)) j _
      rw [add_none hsp]
      unfold Fro at this ⊢
      simpa [Nat.add_assoc] using this

theorem ok_slc {sz : Nat} {x : AX} {lo hi mx : Option AX} (sim : SimE nt s.env C a) (hH : C.H = s.heap) (hr : HRep C) (hc : chkIns P o (.slc sz x lo hi mx) = true) (h : ains (.slc sz x lo hi mx) s = some (av, s')) :
    OpRes C (s.p ++ [s.k]) ((execOp a.eval o).run P C.w) av s'.heap := by
  simp only [ains] at h
  simp only [chkIns] at hc
  split at hc
  · rename_i t x' lo' hi' mx' eo
    simp only [Bool.and_eq_true] at hc
    obtain ⟨⟨⟨⟨⟨⟨c1, c2⟩, c3⟩, c4⟩, c5⟩, c6⟩, c7⟩ := hc
    have hsz0' : 0 < sz := of_decide_eq_true c7
    split at c5
    · rename_i el hu
      have hv := rep_opd sim c1
      split at h
      · rename_i rows erows
        rw [← hH] at erows
        split at h
        · rename_i hh ehh
          split at h
          · rename_i ll ell
            split at h
            · rename_i mm emm
              split at h
              · rename_i hcond
                obtain ⟨hc1, hc2, hc3⟩ := hcond
                have b1 := bnd_rep sim c3 ehh
                have b2 := bnd_rep sim c2 ell
                have b3 := bnd_rep sim c4 emm
                have hrunS : ∀ base cap, rows.length ≤ cap → a.eval x' = .slice base rows.length cap → ∃ m, (m = mm ∨ m = cap) ∧ (execOp a.eval o).run P C.w = .ok (.value (.slice (if m = ll then base else base.map (·.add (ll * sz))) (hh - ll) (m - ll))) C.w ∧ hh ≤ m ∧ m ≤ cap ∧ (lo = none → hi = none → mx = none → ll = 0 ∧ hh = rows.length ∧ m = cap) ∧ (mx = none → m = cap) := by
                  intro base cap hcap hx
                  rcases b3 with ⟨e3, e3', e3''⟩ | ⟨k3, e3, e3'⟩
                  · have hrun := run_bounds (P := P) (isSlice := true) (len := rows.length) (cap := cap) (l := ll) (h := hh) (m := cap) (lo := lo'.map a.eval) (hi := hi'.map a.eval) (mx := none) C.w
                      (b2.imp (fun h => ⟨h.1, h.2.2⟩) (fun ⟨k, h, _⟩ => ⟨k, h⟩)) (b1.imp (fun h => ⟨h.1, h.2.2⟩) (fun ⟨k, h, _⟩ => ⟨k, h⟩)) (.inl ⟨rfl, rfl⟩) (by simp) hc1 (by omega) (Nat.le_refl _)
                    refine ⟨cap, .inr rfl, ?_, by omega, Nat.le_refl _, fun h1 h2 _ => ⟨?_, ?_, rfl⟩, fun _ => rfl⟩
                    · simp [execOp, eo, hx, e3, Instr.sliceAt, run_underlying hu, Instr.slice, hrun, run_sizeOf' c5]
                    · subst h1; simp [bnd] at ell; omega
                    · subst h2; simp [bnd] at ehh; omega
                  · have hhi : hi.isSome = true := by
                      cases mx with
                      | none => cases e3'
                      | some y => simpa using c6
                    have hrun := run_bounds (P := P) (isSlice := true) (len := rows.length) (cap := cap) (l := ll) (h := hh) (m := mm) (lo := lo'.map a.eval) (hi := hi'.map a.eval) (mx := mx'.map a.eval) C.w
                      (b2.imp (fun h => ⟨h.1, h.2.2⟩) (fun ⟨k, h, _⟩ => ⟨k, h⟩)) (b1.imp (fun h => ⟨h.1, h.2.2⟩) (fun ⟨k, h, _⟩ => ⟨k, h⟩)) (.inr ⟨k3, e3⟩)
                      (fun _ => by
                        rcases b1 with ⟨_, hn, _⟩ | ⟨k, hk, _⟩
                        · rw [hn] at hhi; cases hhi
                        · rw [hk]; simp) hc1 (by omega) (by omega)
                    refine ⟨mm, .inl rfl, ?_, by omega, by omega, fun _ _ h3 => ?_, fun h3 => ?_⟩
                    · simp [execOp, eo, hx, Instr.sliceAt, run_underlying hu, Instr.slice, hrun, run_sizeOf' c5]
                    · rw [h3] at e3'; cases e3'
                    · rw [h3] at e3'; cases e3'
                split at h
                · rename_i id n ev
                  split at h
                  · rename_i hwhole
                    obtain ⟨hl0, hhn, hmn⟩ := hwhole
                    simp only [Option.some.injEq, Prod.mk.injEq] at h
                    obtain ⟨rfl, rfl⟩ := h
                    have hsz0 : ∃ wr fl e rows', hget C.H id = some (.row wr fl e sz rows') ∧ rows'.length = n ∧ rows' = rows := by
                      rw [ev] at erows
                      simp only [rowsOf] at erows
                      split at erows
                      · rename_i wr fl e sz' rows' ho
                        split at erows
                        · rename_i hcc
                          obtain ⟨rfl, hn⟩ := hcc
                          injection erows with erows
                          exact ⟨wr, fl, e, rows', ho, hn, erows⟩
                        · cases erows
                      · cases erows
                    obtain ⟨wr, fl, e, rows', ho, hn', rfl⟩ := hsz0
                    have h0 := (hr.obj id _ ho).1
                    obtain ⟨base, cap, hu', hcap, _⟩ := rowsOf_rep hr erows hv h0
                    obtain ⟨m, _, hrun, _, _, _, hm⟩ := hrunS base cap hcap hu'
                    have hmc := hm (by simpa using hmn)
                    subst hmc
                    rw [ev] at hv
                    refine .pure hr (v := a.eval x') ?_ (by rw [ev]; exact hv) hH
                    rw [hrun, hu', hl0]
                    simp only [Nat.zero_mul, Nat.sub_zero]
                    have hb : (if m = 0 then base else base.map fun x => x.add 0) = base := by
                      split
                      · rfl
                      · cases base <;> simp [Addr.add]
                    rw [hb, hhn, hn']
                  · split at h
                    · rename_i sz2 rows' H ef
                      simp only [Option.some.injEq, Prod.mk.injEq] at h
                      obtain ⟨rfl, rfl⟩ := h
                      obtain ⟨f1, _, f3⟩ := fzd_ok 4 _ _ _ _ ef
                      rw [← hH] at f1
                      have hfv := f3 C (a.eval x') hH hr hv
                      have hsz0 : ∃ wr fl e rows', hget C.H id = some (.row wr fl e sz rows') ∧ rows'.length = n := by
                        rw [ev] at erows
                        simp only [rowsOf] at erows
                        split at erows
                        · rename_i wr fl e sz' rows' ho
                          split at erows
                          · rename_i hcc
                            obtain ⟨rfl, hn⟩ := hcc
                            exact ⟨wr, fl, e, rows', ho, hn⟩
                          · cases erows
                        · cases erows
                      obtain ⟨wr, fl, e, rows0, ho, hn'⟩ := hsz0
                      have h0 := (hr.obj id _ ho).1
                      obtain ⟨base, cap, hu', hcap, _⟩ := rowsOf_rep hr erows hv h0
                      obtain ⟨m, _, hrun, hm1, hm2, _, _⟩ := hrunS base cap hcap hu'
                      rw [hu'] at hfv
                      have hlen : rows'.length = rows.length := by
                        obtain ⟨b', c', hbc⟩ := hfv.list_inv
                        injection hbc with _ h2 _
                        exact h2.symm
                      have hsz2 : sz2 = sz := by
                        have hef := ef
                        rw [← hH] at hef
                        rw [ev] at hef
                        unfold fz fzd at hef
                        simp only [ho] at hef
                        cases fl with
                        | true =>
                          simp only [hn', if_true, Option.some.injEq, Prod.mk.injEq, AV.list.injEq] at hef
                          exact hef.1.1.symm
                        | false =>
                          simp only [hn', if_true] at hef
                          split at hef
                          · simp only [Option.some.injEq, Prod.mk.injEq, AV.list.injEq] at hef
                            exact hef.1.1.symm
                          · cases hef
                      subst hsz2
                      rw [← hlen] at hfv
                      have hp := rep_part hfv hc1 (by omega) hm1 hm2
                      exact .flag hr (by rw [hH] at f1; rw [hH]; exact f1) hrun hp
                    · cases h
                · rename_i hno
                  simp only [Option.some.injEq, Prod.mk.injEq] at h
                  obtain ⟨rfl, rfl⟩ := h
                  obtain ⟨base, cap, hu', hcap, _⟩ := rowsOf_rep hr erows hv hsz0'
                  have hvl : Rep C (.list sz rows) (.slice base rows.length cap) := by
                    generalize AX.ev s.env x = xe at hv erows hno
                    unfold rowsOf at erows
                    split at erows
                    · split at erows
                      · rename_i hs
                        subst hs
                        injection erows with erows
                        subst erows
                        rw [hu'] at hv
                        exact hv
                      · cases erows
                    · injection erows with erows
                      subst erows
                      rw [hu'] at hv
                      have hb0 : base = none ∧ cap = 0 := by
                        generalize hl : ([] : List (List AV)).length = l0 at hv
                        cases hv
                        exact ⟨rfl, rfl⟩
                      exact .list sz [] base cap (fun _ => undef) hsz0' (Nat.zero_le _) (fun _ => hb0.2) (by simp) (by simp) (by simp) (by simp)
                    · injection erows with erows
                      subst erows
                      rw [hu'] at hv
                      have hb0 : base ≠ none := by
                        generalize hl : ([] : List (List AV)).length = l0 at hv
                        cases hv
                        simp
                      exact .list sz [] base cap (fun _ => undef) hsz0' (Nat.zero_le _) (fun h => absurd h hb0) (by simp) (by simp) (by simp) (by simp)
                    · rename_i id n
                      exact absurd rfl (hno id n)
                    · cases erows
                  obtain ⟨m, _, hrun, hm1, hm2, _, _⟩ := hrunS base cap hcap hu'
                  exact .pure hr hrun (rep_part hvl hc1 (by omega) hm1 hm2) hH
              · cases h
            · cases h
          · cases h
        · cases h
      · cases h
    · cases c5
  · cases hc

theorem ok_zap {elem sz : Nat} {x : AX} (sim : SimE nt s.env C a) (hH : C.H = s.heap) (hr : HRep C) (hq : ∀ id, (s.p ++ [s.k]) <+: id → C.Av id) (hc : chkIns P o (.zap elem sz x) = true) (h : ains (.zap elem sz x) s = some (av, s')) :
    OpRes C (s.p ++ [s.k]) ((execOp a.eval o).run P C.w) av s'.heap := by
  simp only [ains] at h
  simp only [chkIns] at hc
  split at hc
  · rename_i t x' k1 k2 eo
    simp only [Bool.and_eq_true, decide_eq_true_eq] at hc
    obtain ⟨⟨c1, c2⟩, h0⟩ := hc
    have hv := rep_opd sim c1
    split at c2
    · rename_i el hu
      simp only [Bool.and_eq_true, beq_iff_eq] at c2
      obtain ⟨rfl, c2⟩ := c2
      split at h
      · rename_i rows erows
        simp only [Option.some.injEq, Prod.mk.injEq] at h
        obtain ⟨rfl, rfl⟩ := h
        rw [← hH] at erows
        obtain ⟨base, cap, hxv, hcap, _⟩ := rowsOf_rep hr erows hv h0
        have hrun := run_bounds (P := P) (isSlice := true) (len := rows.length) (cap := cap) (l := 0) (h := 0) (m := 0) (lo := none) (hi := some (.int k1 0)) (mx := some (.int k2 0)) C.w
          (.inl ⟨rfl, rfl⟩) (.inr ⟨k1, rfl⟩) (.inr ⟨k2, rfl⟩) (by simp) (Nat.le_refl _) (Nat.zero_le _) (Nat.zero_le _)
        have hex : (execOp a.eval o).run P C.w = .ok (.value (.slice base 0 0)) C.w := by
          have e1 : a.eval (.const (.int k1 0)) = .int k1 0 := rfl
          have e2 : a.eval (.const (.int k2 0)) = .int k2 0 := rfl
          simp [execOp, eo, hxv, Instr.sliceAt, run_underlying hu, Instr.slice, e1, e2, hrun, run_sizeOf' c2]
        refine OpRes.new' (nv0 := .slice base 0 0) (o := .row true true el sz []) (v := .slice none 0 0) (w := C.w) hr hq ⟨rfl, rfl⟩ (Ext.refl C) hex (by simp [St.add, hH]) (Nat.le_refl _) (fun _ _ => rfl) rfl rfl rfl (by simp [blk]) (fun _ => ?_) (fun _ => ?_)
        · refine .own _ 0 _ (fun h => h.2 (List.prefix_refl _)) ⟨_, _, _, rfl⟩ fun o' e => ?_
          have e' : hget (hadd C.H (s.p ++ [s.k]) (.row true true el sz [])) (s.p ++ [s.k]) = some o' := e
          rw [hget_hadd, if_pos rfl] at e'
          injection e' with e'
          subst e'
          exact ⟨by simp [asize], fun _ => .inr ⟨rfl, put_self _ _ _ _ _ _, base, rfl⟩⟩
        · refine ⟨h0, by simp, by intro j av; simp, [], ?_, .nil⟩
          rw [put_self]
          exact World.ownsRow_nil _ _ _ _
      · cases h
    · cases c2
  · cases hc

theorem ok_isnil {neg : Bool} {x : AX} (sim : SimE nt s.env C a) (hH : C.H = s.heap) (hr : HRep C) (hc : chkIns P o (.isnil neg x) = true) (h : ains (.isnil neg x) s = some (av, s')) :
    OpRes C (s.p ++ [s.k]) ((execOp a.eval o).run P C.w) av s'.heap := by
  simp only [ains] at h
  simp only [chkIns] at hc
  split at hc
  · rename_i op t x' yt eo
    simp only [Bool.and_eq_true, decide_eq_true_eq] at hc
    obtain ⟨⟨c1, c2⟩, c3⟩ := hc
    have hv := rep_opd sim c1
    split at c2
    · rename_i el hu
      have run : ∀ (base : Option Addr) (l c : Nat), a.eval x' = .slice base l c → (execOp a.eval o).run P C.w = .ok (.value (.bool (if neg then !base.isNone else base.isNone))) C.w := by
        intro base l c hx
        have he := run_equal_slice_nil (P := P) C.w t el base l c hu
        have e0 : a.eval (.const (.slice none 0 0)) = .slice none 0 0 := rfl
        have hg : ∀ b : Value, (eqGuard op t x' (.const (.slice none 0 0)) (.slice base l c) b).run P C.w = .ok () C.w := by
          intro b
          cases op <;> simp [eqGuard]
        cases neg with
        | true =>
          simp only [if_true] at c3 ⊢
          subst c3
          simp [execOp, eo, hx, e0, hg, binOp, he]
        | false =>
          simp only [Bool.false_eq_true, if_false] at c3 ⊢
          subst c3
          simp [execOp, eo, hx, e0, hg, binOp, he]
      have fin : ∀ (b : Bool) (base : Option Addr) (l c : Nat), a.eval x' = .slice base l c → base.isNone = b → some (AV.bool (if neg then !b else b), s) = some (av, s') → OpRes C (s.p ++ [s.k]) ((execOp a.eval o).run P C.w) av s'.heap := by
        intro b base l c hx hb h
        simp only [Option.some.injEq, Prod.mk.injEq] at h
        obtain ⟨rfl, rfl⟩ := h
        subst hb
        exact .pure hr (run base l c hx) (.bool _) hH
      generalize hxv : a.eval x' = xv at hv
      split at h
      · rename_i ex
        rw [ex] at hv
        cases hv
        exact fin true none 0 0 hxv rfl (by rw [← h]; cases neg <;> rfl)
      · rename_i ex
        rw [ex] at hv
        cases hv with
        | emp ad cap => exact fin false (some ad) 0 cap hxv rfl (by rw [← h]; cases neg <;> rfl)
      · rename_i sz r0 rows ex
        rw [ex] at hv
        cases hv with
        | list _ _ base cap vals h0 hcap hz hrr hb hf hvv =>
          obtain ⟨ad, hba, _⟩ := hb (by simp)
          subst hba
          exact fin false (some ad) _ cap hxv rfl (by rw [← h]; cases neg <;> rfl)
      · rename_i id n ex
        rw [ex] at hv
        split at h
        · rename_i wr fl e sz' rows ho
          rw [← hH] at ho
          split at h
          · rename_i hcond
            cases hv with
            | own _ _ _ ha hs hoo =>
              rcases (hoo _ ho).2 hcond.1 with hhd | ⟨hn0, _⟩
              case inr => omega
              obtain ⟨h0, h1, h2, xs, h3, h4⟩ := hr.obj id _ ho
              rcases h3.2 with ⟨hv1, hn1⟩ | ⟨g, cap, cur, hv1, _⟩
              · omega
              · rw [hv1] at hhd
                exact fin false _ _ _ (hxv.trans hhd) rfl (by rw [← h]; cases neg <;> rfl)
          · cases h
        · cases h
      · cases h
    · cases c2
  · cases hc

end
end Go.Proofs.Abs

set_option linter.all false
set_option linter.constructorNameAsVariable false
set_option linter.defProp false
set_option linter.unusedVariables false
set_option linter.unusedSimpArgs false
namespace Go.Proofs.Abs
open Go

section
variable {P : Program} {o : Oper} {a : Act} {C : Ctx} {nt : Nat} {s s' : St} {av : AV}

theorem run_bin0 {op : BinOp} {t : TypeId} {x y : Operand} {k k' : IntKind} {m n : Int} {r : AV} (w : World) (h : abin op 0 (.int k m) (.int k' n) = some r) :
    ∃ v, (do eqGuard op t x y (.int k m) (.int k' n); binOp op t (.int k m) (.int k' n) : Sem Value).run P w = .ok v w ∧ ∀ C : Ctx, Rep C r v := by
  unfold abin at h
  simp only at h
  have hg : (eqGuard op t x y (.int k m) (.int k' n)).run P w = .ok () w := by cases op <;> simp [eqGuard]
  simp only [Sem.run_bind, hg, Result.andThen_ok]
  split at h
  · unfold ashift at h
    split at h
    · cases h
    · rename_i hn
      simp only [Option.some.injEq] at h
      subst h
      exact ⟨_, by simp [binOp, Op.shift, hn], fun C => .int _ _⟩
  · unfold ashift at h
    split at h
    · cases h
    · rename_i hn
      simp only [Option.some.injEq] at h
      subst h
      exact ⟨_, by simp [binOp, Op.shift, hn], fun C => .int _ _⟩
  · rename_i hs1 hs2
    split at h
    · rename_i hk
      subst hk
      cases op <;> simp only [aint, Option.some.injEq, reduceCtorEq] at h <;> first
        | (subst h; exact ⟨_, by simp [binOp, Op.intArith, Op.intCmp], fun C => .int _ _⟩)
        | (subst h; exact ⟨_, by simp [binOp, Op.intArith, Op.intCmp], fun C => .bool _⟩)
        | (split at h
           · cases h
           · rename_i hz
             simp only [Option.some.injEq] at h
             subst h
             exact ⟨_, by simp [binOp, Op.intDiv, hz], fun C => .int _ _⟩)
        | exact (hs1 rfl).elim
        | exact (hs2 rfl).elim
    · cases h

theorem run_bin0s {op : BinOp} {t : TypeId} {x y : Operand} {m n : ByteArray} {r : AV} (w : World) (h : abin op 0 (.str m) (.str n) = some r) :
    ∃ v, (do eqGuard op t x y (.string m) (.string n); binOp op t (.string m) (.string n) : Sem Value).run P w = .ok v w ∧ ∀ C : Ctx, Rep C r v := by
  unfold abin at h
  simp only at h
  have hg : (eqGuard op t x y (.string m) (.string n)).run P w = .ok () w := by cases op <;> simp [eqGuard]
  simp only [Sem.run_bind, hg, Result.andThen_ok]
  unfold astr at h
  split at h
  · split at h
    · cases h
    · rename_i hn
      simp only [Option.some.injEq] at h
      subst h
      exact ⟨.string (m ++ n), by simp only [binOp, Op.stringOp]; rw [if_neg hn]; rfl, fun C => .str _⟩
  · simp only [Option.some.injEq] at h
    subst h
    exact ⟨_, by simp [binOp, Op.stringOp], fun C => .bool _⟩
  · simp only [Option.some.injEq] at h
    subst h
    exact ⟨_, by simp [binOp, Op.stringOp], fun C => .bool _⟩
  · cases h

theorem run_bin1 {op : BinOp} {t : TypeId} {x y : Operand} {m n : Bool} {r : AV} (w : World) (ht : P.underlying t = some .bool) (h : abin op 1 (.bool m) (.bool n) = some r) :
    ∃ v, (do eqGuard op t x y (.bool m) (.bool n); binOp op t (.bool m) (.bool n) : Sem Value).run P w = .ok v w ∧ ∀ C : Ctx, Rep C r v := by
  unfold abin at h
  simp only at h
  have hg : (eqGuard op t x y (.bool m) (.bool n)).run P w = .ok () w := by cases op <;> simp [eqGuard]
  have he : (Op.equal t (.bool m) (.bool n)).run P w = .ok (m == n) w := run_equalIn_bool' w 9999 t m n ht
  simp only [Sem.run_bind, hg, Result.andThen_ok]
  split at h
  · simp only [Option.some.injEq] at h
    subst h
    exact ⟨_, by simp [binOp, he], fun C => .bool _⟩
  · simp only [Option.some.injEq] at h
    subst h
    exact ⟨_, by simp [binOp, he], fun C => .bool _⟩
  · cases h

theorem kind_agg {t k : Nat} (h : kindIs P t k = true) : aggIs P t false = true := by
  unfold kindIs at h
  split at h
  · split at h
    · rename_i e; unfold aggIs; rw [e]; rfl
    · cases h
  · split at h
    · rename_i e; unfold aggIs; rw [e]; rfl
    · cases h
  · split at h
    · rename_i e; unfold aggIs; rw [e]; rfl
    · cases h
  · cases h

/-- '==' of structs of plain fields. -/
theorem run_fields {d : Nat} {xs ys : List Value} {w : World} : ∀ (fs : List Field) (n : Nat) (ks : List Nat) (as bs : List AV) (r : Bool), structCmp P fs n ks = true →
    RepL C as (xs.drop n) → RepL C bs (ys.drop n) → acells ks as bs = some r → (Op.eqFields (d + 1) xs.toArray ys.toArray fs).run P w = .ok r w
  | [], n, ks, as, bs, r, hs, r1, r2, h => by
    cases ks with
    | cons k ks => simp [structCmp] at hs
    | nil =>
      have : r = true := by
        unfold acells at h
        split at h <;> simp_all
      subst this
      simp [Op.eqFields]
  | f :: fs, n, ks, as, bs, r, hs, r1, r2, h => by
    cases ks with
    | nil => simp [structCmp] at hs
    | cons k ks =>
      simp only [structCmp, Bool.and_eq_true, beq_iff_eq, bne_iff_ne] at hs
      obtain ⟨⟨⟨s1, s2⟩, s3⟩, s4⟩ := hs
      have key : ∀ (x y : AV) (as' bs' : List AV), as = x :: as' → bs = y :: bs' → (∀ u v, Rep C x u → Rep C y v → ∃ b : Bool, (Op.equalIn (d + 1) f.type u v).run P w = .ok b w ∧ (b = true → acells ks as' bs' = some r) ∧ (b = false → r = false)) →
          (Op.eqFields (d + 1) xs.toArray ys.toArray (f :: fs)).run P w = .ok r w := by
        intro x y as' bs' ea eb hk
        subst ea; subst eb
        have hl1 : n < xs.length := by have := r1.1; simp at this; omega
        have hl2 : n < ys.length := by have := r2.1; simp at this; omega
        have d1 : xs.drop n = xs[n] :: xs.drop (n + 1) := List.drop_eq_getElem_cons hl1
        have d2 : ys.drop n = ys[n] :: ys.drop (n + 1) := List.drop_eq_getElem_cons hl2
        rw [d1] at r1
        rw [d2] at r2
        have hx := r1.2 0 _ _ rfl rfl
        have hy := r2.2 0 _ _ rfl rfl
        have t1 : RepL C as' (xs.drop (n + 1)) := ⟨by have := r1.1; simp only [List.length_cons] at this; omega, fun j av v e e' => r1.2 (j + 1) av v e e'⟩
        have t2 : RepL C bs' (ys.drop (n + 1)) := ⟨by have := r2.1; simp only [List.length_cons] at this; omega, fun j av v e e' => r2.2 (j + 1) av v e e'⟩
        have hag : aggIs P f.type false = true := kind_agg s3
        have hp1 : (part f.type xs.toArray f.offset).run P w = .ok xs[n] w := by
          simp only [part, Sem.run_bind, run_isAgg hag, Result.andThen_ok, s2]
          simp [hl1]
        have hp2 : (part f.type ys.toArray f.offset).run P w = .ok ys[n] w := by
          simp only [part, Sem.run_bind, run_isAgg hag, Result.andThen_ok, s2]
          simp [hl2]
        obtain ⟨b, hb, ht, hf⟩ := hk _ _ hx hy
        simp only [Op.eqFields]
        rw [if_pos s1]
        simp only [Sem.run_bind, hp1, hp2, hb, Result.andThen_ok]
        cases b with
        | true => simpa using run_fields fs (n + 1) ks as' bs' r s4 t1 t2 (ht rfl)
        | false => simp [hf rfl]
      unfold acells at h
      split at h
      · exact absurd ‹k :: ks = []› (List.cons_ne_nil _ _)
      · rename_i ks' k0 m r0 k0' m' r0' e0
        injection e0 with e0 e0'
        subst e0; subst e0'
        split at h
        · rename_i hkk
          subst hkk
          refine key _ _ _ _ rfl rfl fun u v hu hv => ?_
          rw [hu.int_inv, hv.int_inv]
          unfold kindIs at s3
          simp only at s3
          split at s3
          · rename_i k2 hk2
            refine ⟨m == m', run_equalIn_int w d f.type _ k2 m m' hk2, fun hb => ?_, fun hb => ?_⟩
            · rw [hb] at h; simpa using h
            · rw [hb] at h; simpa using h.symm
          · cases s3
        · cases h
      · rename_i ks' m r0 m' r0' e0
        injection e0 with e0 e0'
        subst e0; subst e0'
        refine key _ _ _ _ rfl rfl fun u v hu hv => ?_
        rw [hu.bool_inv, hv.bool_inv]
        unfold kindIs at s3
        simp only at s3
        split at s3
        · rename_i hk2
          refine ⟨m == m', run_equalIn_bool' w d f.type m m' hk2, fun hb => ?_, fun hb => ?_⟩
          · rw [hb] at h; simpa using h
          · rw [hb] at h; simpa using h.symm
        · cases s3
      · rename_i ks' m r0 m' r0' e0
        injection e0 with e0 e0'
        subst e0; subst e0'
        refine key _ _ _ _ rfl rfl fun u v hu hv => ?_
        rw [hu.str_inv, hv.str_inv]
        unfold kindIs at s3
        simp only at s3
        split at s3
        · rename_i hk2
          refine ⟨m == m', by rw [beq_toListBytes]; exact run_equalIn_string w d f.type m m' hk2, fun hb => ?_, fun hb => ?_⟩
          · rw [hb] at h; simpa using h
          · rw [hb] at h; simpa using h.symm
        · cases s3
      · cases h

theorem ok_bin {op : BinOp} {ty : Nat} {x y : AX} (sim : SimE nt s.env C a) (hH : C.H = s.heap) (hr : HRep C) (hc : chkIns P o (.bin op ty x y) = true) (h : ains (.bin op ty x y) s = some (av, s')) :
    OpRes C (s.p ++ [s.k]) ((execOp a.eval o).run P C.w) av s'.heap := by
  simp only [ains] at h
  simp only [chkIns] at hc
  split at hc
  · rename_i op' t x' y' yt eo
    simp only [Bool.and_eq_true, decide_eq_true_eq] at hc
    obtain ⟨⟨⟨rfl, c1⟩, c2⟩, c3⟩ := hc
    have hx := rep_opd sim c1
    have hy := rep_opd sim c2
    cases hb : abin op' ty (x.ev s.env) (y.ev s.env) with
    | none => rw [hb] at h; simp at h
    | some r =>
      rw [hb] at h
      simp only [Option.map_some, Option.some.injEq, Prod.mk.injEq] at h
      obtain ⟨rfl, rfl⟩ := h
      have fin : ∀ v, (do eqGuard op' t x' y' (a.eval x') (a.eval y'); binOp op' t (a.eval x') (a.eval y') : Sem Value).run P C.w = .ok v C.w → Rep C r v → OpRes C (s.p ++ [s.k]) ((execOp a.eval o).run P C.w) r s.heap := by
        intro v h1 h2
        refine .pure hr (v := v) ?_ h2 hH
        simp only [execOp, eo]
        rw [Sem.run_bind, h1]
        rfl
      have hb' := hb
      unfold abin at hb'
      split at hb'
      · rename_i k m k' n e1 e2
        rw [e1, e2] at hb
        rw [e1] at hx
        rw [e2] at hy
        obtain ⟨v, h1, h2⟩ := run_bin0 (P := P) (t := t) (x := x') (y := y') C.w hb
        exact fin v (by rw [hx.int_inv, hy.int_inv]; exact h1) (h2 C)
      · rename_i m n e1 e2
        rw [e1, e2] at hb
        rw [e1] at hx
        rw [e2] at hy
        obtain ⟨v, h1, h2⟩ := run_bin0s (P := P) (t := t) (x := x') (y := y') C.w hb
        exact fin v (by rw [hx.str_inv, hy.str_inv]; exact h1) (h2 C)
      · rename_i m n e1 e2
        rw [e1, e2] at hb
        rw [e1] at hx
        rw [e2] at hy
        simp only at c3
        split at c3
        · rename_i hu
          obtain ⟨v, h1, h2⟩ := run_bin1 (P := P) (t := t) (x := x') (y := y') C.w hu hb
          exact fin v (by rw [hx.bool_inv, hy.bool_inv]; exact h1) (h2 C)
        · cases c3
      · cases hb'
  · cases hc

theorem ok_bins {op : BinOp} {ks : List Nat} {x y : AX} (sim : SimE nt s.env C a) (hH : C.H = s.heap) (hr : HRep C) (hc : chkIns P o (.bins op ks x y) = true) (h : ains (.bins op ks x y) s = some (av, s')) :
    OpRes C (s.p ++ [s.k]) ((execOp a.eval o).run P C.w) av s'.heap := by
  simp only [ains] at h
  simp only [chkIns] at hc
  split at hc
  · rename_i op' t x' y' yt eo
    simp only [Bool.and_eq_true, decide_eq_true_eq] at hc
    obtain ⟨⟨⟨rfl, c1⟩, c2⟩, c3⟩ := hc
    have hx := rep_opd sim c1
    have hy := rep_opd sim c2
    cases hb : abins op' ks (x.ev s.env) (y.ev s.env) with
    | none => rw [hb] at h; simp at h
    | some r =>
      rw [hb] at h
      simp only [Option.map_some, Option.some.injEq, Prod.mk.injEq] at h
      obtain ⟨rfl, rfl⟩ := h
      unfold abins at hb
      split at hb
      · rename_i as bs e1 e2
        rw [e1] at hx
        rw [e2] at hy
        obtain ⟨xs, hx1, hx2, _⟩ := hx.agg_inv
        obtain ⟨ys, hy1, hy2, _⟩ := hy.agg_inv
        split at c3
        · rename_i fs hu
          simp only [Bool.and_eq_true, Bool.not_eq_true'] at c3
          obtain ⟨⟨c4, c5⟩, c6⟩ := c3
          have hfo : P.fieldsOf t = fs := by simp [Program.fieldsOf, hu]
          have hrun : ∀ r0 : Bool, acells ks as bs = some r0 → (Op.equalIn 10000 t (.agg xs.toArray) (.agg ys.toArray)).run P C.w = .ok r0 C.w := by
            intro r0 h0
            have := run_equalIn_struct (P := P) C.w 9999 t xs.toArray ys.toArray (by rw [hfo]; exact hu) c5
            rw [this, hfo]
            exact run_fields (d := 9998) fs.toList 0 ks as bs r0 c6 (by simpa using hx2) (by simpa using hy2) h0
          have hg := run_eqGuard_agg (P := P) C.w op' t x' y' xs.toArray ys.toArray c4
          split at hb
          · cases hac : acells ks as bs with
            | none => rw [hac] at hb; cases hb
            | some r0 =>
              rw [hac] at hb
              simp only [Option.map_some, Option.some.injEq] at hb
              subst hb
              refine .pure hr (v := .bool r0) ?_ (.bool _) hH
              simp only [execOp, eo, Sem.run_bind, hx1, hy1, hg, Result.andThen_ok, run_eql_struct, hrun r0 hac]
              rfl
          · cases hac : acells ks as bs with
            | none => rw [hac] at hb; cases hb
            | some r0 =>
              rw [hac] at hb
              simp only [Option.map_some, Option.some.injEq] at hb
              subst hb
              refine .pure hr (v := .bool (!r0)) ?_ (.bool _) hH
              simp only [execOp, eo, Sem.run_bind, hx1, hy1, hg, Result.andThen_ok, run_neq_struct, hrun r0 hac]
              rfl
          · cases hb
        · cases c3
      · cases hb
  · cases hc

end
end Go.Proofs.Abs

set_option linter.all false
set_option linter.constructorNameAsVariable false
set_option linter.defProp false
set_option linter.unusedVariables false
set_option linter.unusedSimpArgs false
namespace Go.Proofs.Abs
open Go

section
variable {P : Program} {o : Oper} {a : Act} {C : Ctx} {nt : Nat} {s s' : St} {av : AV}

theorem call_args {o : Oper} {b : Builtin} {args : Array Operand} {ats : Array TypeId} (eo : o.op = .call { callee := .builtin b, args := args, argTypes := ats }) (w : World) :
    (execOp a.eval o).run P w = (builtin b ats o.type (args.map fun | .const _ => true | _ => false) (args.map a.eval)).run P w := by
  simp only [execOp, eo, resolve]
  simp [invoke]
  rfl

theorem Rep.nils_inv {u : Value} (h : Rep C .nils u) : u = .slice none 0 0 := by cases h; rfl

theorem own_len {id : Id} {n : Nat} {wr fl : Bool} {e sz : Nat} {rows : List (List AV)} {u : Value} (hr : HRep C) (ho : hget C.H id = some (.row wr fl e sz rows)) (hn : rows.length = n) (hv : Rep C (.own id n) u) : ∃ base cap, u = .slice base n cap := by
  have h0 := (hr.obj id _ ho).1
  have := rowsOf_rep (sz := sz) (rows := rows) hr (by simp only [rowsOf, ho, hn, and_self, if_true]) hv h0
  obtain ⟨base, cap, h1, _⟩ := this
  exact ⟨base, cap, by rw [← hn]; exact h1⟩

theorem ok_len {ty : Nat} {x : AX} (sim : SimE nt s.env C a) (hH : C.H = s.heap) (hr : HRep C) (hc : chkIns P o (.len ty x) = true) (h : ains (.len ty x) s = some (av, s')) :
    OpRes C (s.p ++ [s.k]) ((execOp a.eval o).run P C.w) av s'.heap := by
  simp only [ains] at h
  simp only [chkIns] at hc
  split at hc
  · rename_i args ats eo
    split at hc
    · rename_i x' t eargs eats
      simp only [Bool.and_eq_true] at hc
      obtain ⟨c1, c2⟩ := hc
      have hv := rep_opd sim c1
      have ea : args = #[x'] := by apply Array.ext'; simpa using eargs
      have et : ats = #[t] := by apply Array.ext'; simpa using eats
      subst ea; subst et
      have fin : ∀ (v : Value) (av : AV), (Builtin.len_ #[t] o.type #[a.eval x']).run P C.w = .ok v C.w → Rep C av v → OpRes C (s.p ++ [s.k]) ((execOp a.eval o).run P C.w) av s.heap := by
        intro v av h1 h2
        refine .pure hr (v := v) ?_ h2 hH
        rw [call_args eo]
        simp [builtin, h1]
      split at h
      · rename_i b e
        simp only [Option.some.injEq, Prod.mk.injEq] at h
        obtain ⟨rfl, rfl⟩ := h
        rw [e] at hv
        simp only at c2
        split at c2
        · rename_i hu
          exact fin _ _ (by simp only [hv.str_inv]; simp [Builtin.len_, run_underlying hu]; rfl) (.int _ _)
        · cases c2
      · rename_i sz rows e
        simp only [Option.some.injEq, Prod.mk.injEq] at h
        obtain ⟨rfl, rfl⟩ := h
        rw [e] at hv
        simp only at c2
        split at c2
        · rename_i el hu
          obtain ⟨base, cap, hx⟩ := hv.list_inv
          exact fin _ _ (by rw [hx]; simp [Builtin.len_, run_underlying hu]; rfl) (.int _ _)
        · cases c2
      · rename_i e
        simp only [Option.some.injEq, Prod.mk.injEq] at h
        obtain ⟨rfl, rfl⟩ := h
        rw [e] at hv
        simp only at c2
        split at c2
        · rename_i el hu
          have hx : a.eval x' = .slice none 0 0 := hv.nils_inv
          exact fin _ _ (by rw [hx]; simp [Builtin.len_, run_underlying hu]; rfl) (.int _ _)
        · cases c2
      · rename_i e
        simp only [Option.some.injEq, Prod.mk.injEq] at h
        obtain ⟨rfl, rfl⟩ := h
        rw [e] at hv
        simp only at c2
        split at c2
        · rename_i el hu
          obtain ⟨ad, cap, hx⟩ : ∃ ad cap, a.eval x' = .slice (some ad) 0 cap := by
            generalize a.eval x' = xv at hv
            cases hv
            exact ⟨_, _, rfl⟩
          exact fin _ _ (by rw [hx]; simp [Builtin.len_, run_underlying hu]; rfl) (.int _ _)
        · cases c2
      · rename_i id n e
        rw [e] at hv
        split at h
        · rename_i wr fl el sz rows ho
          rw [← hH] at ho
          split at h
          · rename_i hn
            simp only [Option.some.injEq, Prod.mk.injEq] at h
            obtain ⟨rfl, rfl⟩ := h
            simp only at c2
            split at c2
            · rename_i el hu
              obtain ⟨base, cap, hx⟩ := own_len hr ho hn hv
              exact fin _ _ (by rw [hx]; simp [Builtin.len_, run_underlying hu]; rfl) (.int _ _)
            · cases c2
          · cases h
        · cases h
      · rename_i id e
        rw [e] at hv
        split at h
        · rename_i es ho
          rw [← hH] at ho
          simp only [Option.some.injEq, Prod.mk.injEq] at h
          obtain ⟨rfl, rfl⟩ := h
          simp only at c2
          split at c2
          · rename_i kt el hu
            obtain ⟨g, ents, clock, h1, h2, h3, h4⟩ := hr.obj id _ ho
            generalize hxv : a.eval x' = xv at hv
            cases hv with
            | map _ _ ha hs hoo =>
              have hx := hoo _ ho rfl
              rw [h1] at hx
              have hlen : ents.size = es.length := by have := h3.1; simp at this; exact this.symm
              exact fin _ _ (by rw [hxv, hx]; simp [Builtin.len_, run_underlying hu, getObj, Sem.run, h2, hlen]; rfl) (.int _ _)
          · cases c2
        · cases h
      · cases h
    · cases hc
  · cases hc

theorem run_fold {mx : Bool} {w : World} : ∀ (r : List AV) (us : List Value) (k : IntKind) (x : Int) (av : AV), RepL C r us → foldMin mx k x r = some av →
    ∃ v, (us.foldlM (if mx then Builtin.max2 else Builtin.min2) (.int k x)).run P w = .ok v w ∧ Rep C av v
  | [], us, k, x, av, hl, h => by
    have : us = [] := List.eq_nil_of_length_eq_zero hl.1.symm
    subst this
    simp only [foldMin, Option.some.injEq] at h
    subst h
    exact ⟨_, by simp, .int _ _⟩
  | y :: r, us, k, x, av, hl, h => by
    cases us with
    | nil => have := hl.1; simp at this
    | cons u us =>
      have h0 := hl.2 0 _ _ rfl rfl
      have ht : RepL C r us := ⟨by have := hl.1; simpa using this, fun j av v e e' => hl.2 (j + 1) av v (by simpa using e) (by simpa using e')⟩
      unfold foldMin at h
      split at h
      · cases ‹y :: r = []›
      · rename_i k' b r' e
        injection e with e1 e2
        subst e1; subst e2
        split at h
        · rename_i hk
          subst hk
          obtain ⟨v, h1, h2⟩ := run_fold _ _ _ _ _ ht h
          refine ⟨v, ?_, h2⟩
          rw [h0.int_inv]
          cases mx with
          | true =>
            simp only [if_true] at h1 ⊢
            simp only [List.foldlM_cons, Sem.run_bind, Builtin.max2, Sem.run_pure, Result.andThen_ok]
            exact h1
          | false =>
            simp only [Bool.false_eq_true, if_false] at h1 ⊢
            simp only [List.foldlM_cons, Sem.run_bind, Builtin.min2, Sem.run_pure, Result.andThen_ok]
            exact h1
        · cases h
      · cases h

theorem ok_mm {mx : Bool} {xs : List AX} (sim : SimE nt s.env C a) (hH : C.H = s.heap) (hr : HRep C) (hc : chkIns P o (.mm mx xs) = true) (h : ains (.mm mx xs) s = some (av, s')) :
    OpRes C (s.p ++ [s.k]) ((execOp a.eval o).run P C.w) av s'.heap := by
  simp only [ains] at h
  simp only [chkIns] at hc
  split at hc
  · rename_i b args ats eo
    simp only [Bool.and_eq_true] at hc
    obtain ⟨c1, c2⟩ := hc
    have hl := opds_rep sim c2
    split at h
    · rename_i k x r e
      cases hf : foldMin mx k x r with
      | none => rw [hf] at h; simp at h
      | some av' =>
        rw [hf] at h
        simp only [Option.map_some, Option.some.injEq, Prod.mk.injEq] at h
        obtain ⟨rfl, rfl⟩ := h
        rw [e] at hl
        cases hus : args.toList.map a.eval with
        | nil => rw [hus] at hl; have := hl.1; simp at this
        | cons u us =>
          rw [hus] at hl
          have h0 := hl.2 0 _ _ rfl rfl
          have ht : RepL C r us := ⟨by have := hl.1; simpa using this, fun j av v e e' => hl.2 (j + 1) av v (by simpa using e) (by simpa using e')⟩
          obtain ⟨v, h1, h2⟩ := run_fold (P := P) (w := C.w) r us k x av' ht hf
          have hargs : (args.map a.eval).toList = .int k x :: us := by rw [Array.toList_map, hus, h0.int_inv]
          refine .pure hr (v := v) ?_ h2 hH
          rw [call_args eo]
          cases b <;> simp only [reduceCtorEq, Bool.false_eq_true] at c1
          · subst c1
            simp only [builtin, Sem.run_bind, Builtin.max_, hargs]
            simp only [if_true] at h1
            rw [h1]; rfl
          · have : mx = false := by simpa using c1
            subst this
            simp only [builtin, Sem.run_bind, Builtin.min_, hargs]
            simp only [Bool.false_eq_true, if_false] at h1
            rw [h1]; rfl
    · cases h
  · cases hc

/-! ### Literals -/
theorem fill_step {place : Nat → Option (Nat × Nat)} {i off sz : Nat} {v : Value} {cells : Array Value} {rest : List (Nat × Value)} (hp : place i = some (off, sz)) (hs : v.cells.size = sz) (hle : off + sz ≤ cells.size) :
    ∃ cells', Instr.fill place cells ((i, v) :: rest) = Instr.fill place cells' rest ∧ cells'.toList = cells.toList.take off ++ v.cells.toList ++ cells.toList.drop (off + sz) := by
  have hno : ¬ (v.cells.size ≠ sz ∨ off + v.cells.size > cells.size) := by omega
  refine ⟨_, by simp only [Instr.fill, hp]; rw [if_neg (by simpa using hno)], ?_⟩
  obtain ⟨h1, h2⟩ := Great.foldl_set off v.cells.toList 0 cells
  have ez : v.cells.zipIdx.foldl (fun cs (x : Value × Nat) => cs.setIfInBounds (off + x.2) x.1) cells = (v.cells.toList.zipIdx 0).foldl (fun cs (x : Value × Nat) => cs.setIfInBounds (off + x.2) x.1) cells := by
    rw [← Array.foldl_toList, Array.toList_zipIdx]
  have goal : (v.cells.zipIdx.foldl (fun cs (x : Value × Nat) => cs.setIfInBounds (off + x.2) x.1) cells).toList = cells.toList.take off ++ v.cells.toList ++ cells.toList.drop (off + sz) := by
    rw [ez]
    apply List.ext_getElem?
    intro j
    rw [Array.getElem?_toList, h2 j]
    simp only [Nat.add_zero, Array.length_toList, List.append_assoc]
    by_cases hj : j < off
    · rw [if_neg (by omega), List.getElem?_append_left (by simp; omega), List.getElem?_take, if_pos hj, Array.getElem?_toList]
    · rw [List.getElem?_append_right (by simp; omega)]
      simp only [List.length_take, Array.length_toList]
      have hm : min off cells.size = off := by omega
      rw [hm]
      by_cases hj2 : j < off + sz
      · rw [if_pos ⟨by omega, by omega, by omega⟩, List.getElem?_append_left (by simp; omega)]
      · rw [if_neg (by omega), List.getElem?_append_right (by simp; omega), List.getElem?_drop, Array.getElem?_toList]
        congr 1
        simp
        omega
  exact goal

theorem fill_afill {place : Nat → Option (Nat × Nat)} (sim : SimE nt s.env C a) : ∀ (ps : List (Nat × Operand)) (parts : List (Nat × Nat × AX)) (l : List (Nat × Nat × List AV)) (zs : List AV) (cells : Array Value) (out : List AV),
    partsOK place ps parts = true → partsOfA s.env parts = some l → RepL C zs cells.toList → Cells zs → afill zs l = some out →
    ∃ cells', Instr.fill place cells (ps.map fun x => (x.1, a.eval x.2)) = some cells' ∧ RepL C out cells'.toList ∧ Cells out
  | [], parts, l, zs, cells, out, h1, h2, h3, h4, h5 => by
    cases parts with
    | cons p ps => simp [partsOK] at h1
    | nil =>
      simp only [partsOfA, Option.some.injEq] at h2
      subst h2
      simp only [afill, Option.some.injEq] at h5
      subst h5
      exact ⟨cells, rfl, h3, h4⟩
  | (i, x) :: ps, parts, l, zs, cells, out, h1, h2, h3, h4, h5 => by
    cases parts with
    | nil => simp [partsOK] at h1
    | cons p parts =>
      obtain ⟨off, sz, y⟩ := p
      simp only [partsOK, Bool.and_eq_true, decide_eq_true_eq] at h1
      obtain ⟨⟨p1, p2⟩, p3⟩ := h1
      simp only [partsOfA] at h2
      split at h2
      · rename_i cs l' ecs el
        injection h2 with h2
        subst h2
        simp only [afill] at h5
        split at h5
        · rename_i hcond
          obtain ⟨q1, q2⟩ := hcond
          obtain ⟨r1, r2⟩ := cellsOf_rep (rep_opd sim p2) ecs
          have hsz : (a.eval x).cells.size = sz := by have := r1.1; simp at this; omega
          have hzl : zs.length = cells.size := by have := h3.1; simpa using this
          obtain ⟨cells', e1, e2⟩ := fill_step (place := place) (v := a.eval x) (cells := cells) (rest := ps.map fun x => (x.1, a.eval x.2)) p1 hsz (by omega)
          have h3' : RepL C (zs.take off ++ cs ++ zs.drop (off + sz)) cells'.toList := by
            rw [e2]
            exact ((h3.take off).app r1).app (h3.drop (off + sz))
          have h4' : Cells (zs.take off ++ cs ++ zs.drop (off + sz)) := ((h4.take off).app r2).app (h4.drop (off + sz))
          obtain ⟨c2, f1, f2, f3⟩ := fill_afill sim ps parts l' _ cells' out p3 el h3' h4' h5
          exact ⟨c2, by rw [List.map_cons, e1, f1], f2, f3⟩
        · cases h5
      · cases h2

theorem ok_agg {zero : List AV} {parts : List (Nat × Nat × AX)} (sim : SimE nt s.env C a) (hH : C.H = s.heap) (hr : HRep C) (hc : chkIns P o (.agg zero parts) = true) (h : ains (.agg zero parts) s = some (av, s')) :
    OpRes C (s.p ++ [s.k]) ((execOp a.eval o).run P C.w) av s'.heap := by
  simp only [ains] at h
  simp only [chkIns] at hc
  split at hc
  · rename_i t ps eo
    simp only [Bool.and_eq_true] at hc
    obtain ⟨c1, c2⟩ := hc
    split at c2
    · rename_i pl epl
      obtain ⟨ti, z, h1, h2, h3⟩ := zeroIs_iff c1
      obtain ⟨z1, z2⟩ := rep_constCells C h3
      split at h
      · rename_i l el
        cases haf : afill zero l with
        | none => rw [haf] at h; simp at h
        | some out =>
          rw [haf] at h
          simp only [Option.map_some, Option.some.injEq, Prod.mk.injEq] at h
          obtain ⟨rfl, rfl⟩ := h
          obtain ⟨cells', f1, f2, f3⟩ := fill_afill sim ps.toList parts l zero z.cells out c2 el z1 z2 haf
          have hb : P.built t (ps.map fun (i, x) => (i, a.eval x)).toList = some cells' := by
            unfold Program.built
            unfold placesOf at epl
            rw [h1]
            have em : (ps.map fun (i, x) => (i, a.eval x)).toList = ps.toList.map fun x => (x.1, a.eval x.2) := by simp
            rw [em]
            split at epl
            · rename_i n e hu
              split at epl
              · rename_i ie hie
                injection epl with epl
                subst epl
                simp only [hu, h2, hie]
                exact f1
              · cases epl
            · rename_i fields hu
              split at epl
              · rename_i places hpl
                injection epl with epl
                subst epl
                simp only [hu, h2, hpl]
                have : (fun i : Nat => places.toArray[i]?) = fun i => places[i]? := by funext i; simp
                rw [this]
                exact f1
              · cases epl
            · cases epl
          refine .pure hr (v := .agg cells') ?_ ?_ hH
          · simp only [execOp, eo, Sem.run_bind, run_build C.w t _ cells' hb]
            rfl
          · have := Rep.agg (C := C) out cells'.toList f2.1 f3 f2.2
            simpa using this
      · cases h
    · cases c2
  · cases hc

end
end Go.Proofs.Abs

set_option linter.all false
set_option linter.constructorNameAsVariable false
set_option linter.defProp false
set_option linter.unusedVariables false
set_option linter.unusedSimpArgs false
namespace Go.Proofs.Abs
open Go

/-! ### Rows, laid flat -/
theorem flat_seg {sz : Nat} {cs : List AV} {j : Nat} (hj : j + cs.length ≤ sz) : ∀ {rows : List (List AV)} {i : Nat} {old : List AV}, (∀ r ∈ rows, r.length = sz) → rows[i]? = some old →
    (rows.set i (old.take j ++ cs ++ old.drop (j + cs.length))).flatten = rows.flatten.take (i * sz + j) ++ cs ++ rows.flatten.drop (i * sz + j + cs.length)
  | [], i, old, _, h => by simp at h
  | r0 :: rest, 0, old, hr, h => by
    simp only [List.getElem?_cons_zero, Option.some.injEq] at h
    subst h
    have h0 := hr r0 (by simp)
    simp only [List.set_cons_zero, List.flatten_cons, Nat.zero_mul, Nat.zero_add]
    rw [List.take_append_of_le_length (by omega), List.drop_append_of_le_length (by omega)]
    simp
  | r0 :: rest, i + 1, old, hr, h => by
    simp only [List.getElem?_cons_succ] at h
    have h0 := hr r0 (by simp)
    have ih := flat_seg hj (fun r hr' => hr r (by simp [hr'])) h
    simp only [List.set_cons_succ, List.flatten_cons, ih]
    have e1 : (i + 1) * sz + j = r0.length + (i * sz + j) := by rw [h0, Nat.succ_mul]; omega
    rw [e1, List.take_length_add_append, Nat.add_assoc r0.length, List.drop_length_add_append]
    simp

theorem set_len {sz : Nat} {rows : List (List AV)} {i : Nat} {c : List AV} (hr : ∀ r ∈ rows, r.length = sz) (hc : c.length = sz) : ∀ r ∈ rows.set i c, r.length = sz := by
  intro r h
  rcases List.mem_or_eq_of_mem_set h with h | rfl
  · exact hr r h
  · exact hc

section
variable {P : Program} {o : Oper} {a : Act} {C : Ctx} {nt : Nat} {s s' : St} {av : AV}

/-- Literals' parts, each with its cells. -/
inductive PL (C : Ctx) (a : Act) : List (Nat × Operand) → List (Nat × List AV) → Prop
  | nil : PL C a [] []
  | cons {i : Nat} {x : Operand} {cs : List AV} {ps : List (Nat × Operand)} {l : List (Nat × List AV)} (h1 : RepL C cs (a.eval x).cells.toList) (h2 : Cells cs) (h3 : PL C a ps l) : PL C a ((i, x) :: ps) ((i, cs) :: l)

theorem PL.mono {C C' : Ctx} (h : ∀ av v, Rep C av v → Rep C' av v) {ps : List (Nat × Operand)} {l : List (Nat × List AV)} (hp : PL C a ps l) : PL C' a ps l := by
  induction hp with
  | nil => exact .nil
  | cons h1 h2 h3 ih => exact .cons (h1.mono h) h2 ih

theorem partsOf_ok {raw : Bool} {env : Env} : ∀ (ps : List (Nat × Operand)) (parts : List (Nat × AX)) (C : Ctx) (l : List (Nat × List AV)) (H : Heap), partsOKl ps parts = true → partsOf env C.H raw parts = some (l, H) → SimE nt env C a → HRep C →
    FlagLe C.H H ∧ PL { C with H := H } a ps l
  | [], parts, C, l, H, h1, h2, sim, hr => by
    cases parts with
    | cons p ps => simp [partsOKl] at h1
    | nil =>
      simp only [partsOf, Option.some.injEq, Prod.mk.injEq] at h2
      obtain ⟨rfl, rfl⟩ := h2
      exact ⟨.refl _, .nil⟩
  | (i, x) :: ps, parts, C, l, H, h1, h2, sim, hr => by
    cases parts with
    | nil => simp [partsOKl] at h1
    | cons p parts =>
      obtain ⟨j, y⟩ := p
      simp only [partsOKl, Bool.and_eq_true, beq_iff_eq] at h1
      obtain ⟨⟨rfl, p2⟩, p3⟩ := h1
      have hx := rep_opd sim p2
      simp only [partsOf] at h2
      have key : ∀ v H1, FlagLe C.H H1 → Rep { C with H := H1 } v (a.eval x) → (match cellsOf v, partsOf env H1 raw parts with
          | some cs, some (l, H2) => some ((i, cs) :: l, H2)
          | _, _ => none) = some (l, H) → FlagLe C.H H ∧ PL { C with H := H } a ((i, x) :: ps) l := by
        intro v H1 hf hv h
        split at h
        · rename_i cs l' H2 ecs ep
          simp only [Option.some.injEq, Prod.mk.injEq] at h
          obtain ⟨rfl, rfl⟩ := h
          obtain ⟨r1, r2⟩ := cellsOf_rep hv ecs
          obtain ⟨g1, g2⟩ := partsOf_ok ps parts { C with H := H1 } l' H2 p3 ep (sim.ext hf.ext) (hf.hrep hr)
          exact ⟨hf.trans g1, .cons (r1.mono fun _ _ r => r.ext (C := { C with H := H1 }) (C' := { C with H := H2 }) g1.ext) r2 g2⟩
        · cases h
      cases raw with
      | true =>
        simp only [if_true] at h2
        exact key _ _ (.refl _) hx h2
      | false =>
        simp only [Bool.false_eq_true, if_false] at h2
        cases hz : fz C.H (y.ev env) with
        | none => rw [hz] at h2; cases h2
        | some q =>
          obtain ⟨v, H1⟩ := q
          rw [hz] at h2
          obtain ⟨f1, _, f3⟩ := fzd_ok 4 _ _ _ _ hz
          exact key v H1 f1 (f3 C _ rfl hr hx) h2

theorem fill_rows {sz : Nat} : ∀ (ps : List (Nat × Operand)) (l : List (Nat × List AV)) (rows out : List (List AV)) (cells : Array Value), PL C a ps l → (∀ r ∈ rows, r.length = sz) → RepL C rows.flatten cells.toList → Cells rows.flatten → setRows rows l = some out →
    ∃ cells', Instr.fill (fun i => some (i * sz, sz)) cells (ps.map fun x => (x.1, a.eval x.2)) = some cells' ∧ RepL C out.flatten cells'.toList ∧ Cells out.flatten ∧ (∀ r ∈ out, r.length = sz) ∧ out.length = rows.length
  | [], l, rows, out, cells, hp, h1, h2, h3, h4 => by
    cases hp
    simp only [setRows, Option.some.injEq] at h4
    subst h4
    exact ⟨cells, rfl, h2, h3, h1, rfl⟩
  | (i, x) :: ps, l, rows, out, cells, hp, h1, h2, h3, h4 => by
    cases hp with
    | cons r1 r2 r3 =>
      rename_i cs l
      simp only [setRows] at h4
      split at h4
      · rename_i old eold
        split at h4
        · rename_i hlen
          have hol := h1 old (List.mem_of_getElem? eold)
          have hil := (List.getElem?_eq_some_iff.1 eold).1
          have hsz : (a.eval x).cells.size = sz := by have := r1.1; simp at this; omega
          have hfl : rows.flatten.length = cells.size := by have := h2.1; simpa using this
          have hfl2 : rows.flatten.length = rows.length * sz := flat_len h1
          have hle : i * sz + sz ≤ cells.size := by
            rw [← hfl, hfl2, ← Nat.succ_mul]
            exact Nat.mul_le_mul_right _ hil
          obtain ⟨cells', e1, e2⟩ := fill_step (place := fun i => some (i * sz, sz)) (i := i) (v := a.eval x) (cells := cells) (rest := ps.map fun x => (x.1, a.eval x.2)) rfl hsz hle
          have hcl : cs.length = sz := by omega
          have hset : rows.set i cs = rows.set i (old.take 0 ++ cs ++ old.drop (0 + cs.length)) := by
            have : old.drop (0 + cs.length) = [] := by rw [List.drop_eq_nil_iff]; omega
            rw [this]; simp
          have hflat : (rows.set i cs).flatten = rows.flatten.take (i * sz) ++ cs ++ rows.flatten.drop (i * sz + sz) := by
            rw [hset, flat_seg (sz := sz) (by omega) h1 eold]
            simp [hcl]
          obtain ⟨c2, f1, f2, f3, f4, f5⟩ := fill_rows ps l (rows.set i cs) out cells' r3 (set_len h1 hcl) (by rw [hflat, e2]; exact ((h2.take _).app r1).app (h2.drop _)) (by rw [hflat]; exact ((h3.take _).app r2).app (h3.drop _)) h4
          exact ⟨c2, by rw [List.map_cons, e1, f1], f2, f3, f4, by rw [f5]; simp⟩
        · cases h4
      · cases h4

theorem const_zero {vs : List Value} {xs : List AV} (h : constCells vs xs = true) : vs.length = xs.length := by
  have : RepL ⟨[], fun _ => undef, default, fun _ => False, fun _ _ => False⟩ xs vs := (rep_constCells _ h).1
  exact this.1.symm

theorem zero_rep (C : Ctx) {z : Array Value} {zero : List AV} (h : constCells z.toList zero = true) (n : Nat) (hz : 0 < zero.length) :
    RepL C (List.replicate n zero).flatten ((Array.range (n * zero.length)).map (z[· % z.size]!)).toList ∧ Cells (List.replicate n zero).flatten := by
  obtain ⟨h1, h2⟩ := rep_constCells C h
  have hl : z.size = zero.length := by have := h1.1; simp at this; omega
  have hrow : ∀ r ∈ List.replicate n zero, r.length = zero.length := fun r hr => by rw [(List.mem_replicate.1 hr).2]
  have hfl : (List.replicate n zero).flatten.length = n * zero.length := by rw [flat_len hrow]; simp
  have hget : ∀ j, j < n * zero.length → (List.replicate n zero).flatten[j]? = zero[j % zero.length]? := by
    intro j hj
    have hd : j / zero.length < n := Nat.div_lt_of_lt_mul (by rw [Nat.mul_comm]; exact hj)
    have ej : j = (j / zero.length) * zero.length + j % zero.length := by rw [Nat.mul_comm]; exact (Nat.div_add_mod j _).symm
    have := rows_flat hrow (i := j / zero.length) (row := zero) (by simp [hd]) (j % zero.length) (Nat.mod_lt _ hz)
    rw [← ej] at this
    exact this
  refine ⟨⟨by rw [hfl]; simp, fun j av v e1 e2 => ?_⟩, fun j av e1 => ?_⟩
  · have hj : j < n * zero.length := by have := (List.getElem?_eq_some_iff.1 e1).1; rw [hfl] at this; exact this
    rw [hget j hj] at e1
    have hm : j % z.size < z.size := Nat.mod_lt _ (by omega)
    rw [Array.getElem?_toList] at e2
    simp only [Array.getElem?_map, Array.getElem?_range, hj, if_true, Option.map_some, Option.some.injEq] at e2
    rw [getElem!_pos z _ hm] at e2
    refine h1.2 (j % zero.length) av v e1 ?_
    rw [Array.getElem?_toList, ← hl, Array.getElem?_eq_getElem hm, e2]
  · have hj : j < n * zero.length := by have := (List.getElem?_eq_some_iff.1 e1).1; rw [hfl] at this; exact this
    rw [hget j hj] at e1
    exact h2 _ _ e1

theorem alloc_ext (hr : HRep C) (ob : Obj) : Ext C { C with w := C.w.alloc ob } :=
  ⟨by simp [alloc_heap], rfl, rfl, rfl, fun k hk _ => alloc_old _ _ _ hk, fun k off hk _ => World.cell?_of_block (alloc_old _ _ _ hk), fun _ _ _ h => h, fun _ _ h => h, fun _ h => h, rfl, fun _ o' _ h => ⟨o', h, rfl, Nat.le_refl _, fun _ => rfl⟩⟩
theorem alloc_hrep (hr : HRep C) (ob : Obj) : HRep { C with w := C.w.alloc ob } :=
  ⟨hr.nd, hr.av, fun id o e => (hr.obj id o e).step rfl (fun g hg => alloc_old _ _ _ (obj_lt (hr.obj id o e) hg)) (fun _ _ r => r.ext (alloc_ext hr ob)), hr.inj, hr.own, fun g off hm => Nat.lt_of_lt_of_le (hr.xlt g off hm) (by simp [alloc_heap])⟩
theorem ok_lst {e sz : Nat} {zero : List AV} {n : Nat} {parts : List (Nat × AX)} (sim : SimE nt s.env C a) (hH : C.H = s.heap) (hr : HRep C)
    (hc : chkIns P o (.lst e sz zero n parts) = true) (h : ains (.lst e sz zero n parts) s = some (av, s')) : OpRes C (s.p ++ [s.k]) ((execOp a.eval o).run P C.w) av s'.heap := by
  simp only [ains] at h
  simp only [chkIns] at hc
  split at hc
  · rename_i t len ps eo
    simp only [Bool.and_eq_true, decide_eq_true_eq, beq_iff_eq] at hc
    obtain ⟨⟨⟨⟨⟨⟨⟨c1, c2⟩, c3⟩, c4⟩, rfl⟩, c6⟩, c8⟩, c7⟩ := hc
    have hu := sliceIs_iff c1
    obtain ⟨ie, hie, hsz⟩ := sizeIs_iff c2
    obtain ⟨ie', z, hie', hz, hzc⟩ := zeroIs_iff c3
    rw [hie] at hie'; injection hie' with hie'; subst hie'
    split at h
    · rename_i l H epo
      split at h
      · rename_i rows erows
        split at h
        · cases h
        rename_i hlen
        simp only [Option.some.injEq, Prod.mk.injEq] at h
        obtain ⟨rfl, rfl⟩ := h
        have hHe : H = C.H := by
          rw [← hH] at epo
          have : ∀ (pp : List (Nat × AX)) l0 H0, partsOf s.env C.H true pp = some (l0, H0) → H0 = C.H := by
            intro pp
            induction pp with
            | nil => intro l0 H0 h; simp only [partsOf, Option.some.injEq, Prod.mk.injEq] at h; exact h.2.symm
            | cons p pp ih =>
              obtain ⟨i, x⟩ := p
              intro l0 H0 h
              simp only [partsOf, if_true] at h
              split at h
              · rename_i cs l1 H1 e1 e2
                simp only [Option.some.injEq, Prod.mk.injEq] at h
                rw [← h.2]
                exact ih _ _ e2
              · cases h
          exact this _ _ _ epo
        subst hHe
        rw [← hH] at epo
        obtain ⟨f1, f2⟩ := partsOf_ok ps.toList parts C l C.H c7 epo sim hr
        have em : (ps.map fun (i, x) => (i, a.eval x)).toList = ps.toList.map fun x => (x.1, a.eval x.2) := by simp
        have hpos : ¬ len * ie.size = 0 := by
          rw [hsz]
          intro h0
          rcases Nat.mul_eq_zero.1 h0 with h0 | h0
          · exact hlen h0
          · omega
        obtain ⟨z1, z2⟩ := zero_rep C hzc len (by omega)
        rw [c8] at z1
        have hrow0 : ∀ r ∈ List.replicate len zero, r.length = sz := fun r hr => by rw [(List.mem_replicate.1 hr).2]; exact c8
        obtain ⟨cells', g1, g2, g3, g4, g5⟩ := fill_rows (C := C) ps.toList l _ rows _ f2 hrow0 z1 z2 erows
        have hlr : rows.length = len := by rw [g5]; simp
        have hcs : cells'.size = len * sz := by have := g2.1; rw [flat_len g4, hlr] at this; simpa using this.symm
        have hrun : (execOp a.eval o).run P C.w = .ok (.value (.slice (some ⟨C.w.heap.size, 0, none⟩) len len)) (C.w.alloc (.cells cells' e)) := by
          have := run_buildSlice (P := P) C.w t e len (ps.map fun (i, x) => (i, a.eval x)) cells' ie z hu hie hz (by rw [hsz]; omega) hpos (by rw [em, hsz]; exact g1)
          simp only [execOp, eo, Sem.run_bind, this]
          rfl
        have hx := alloc_ext hr (.cells cells' e)
        refine ⟨{ C with w := C.w.alloc (.cells cells' e) }, _, hrun, .inl ⟨_, rfl, ?_⟩, hH, alloc_hrep hr _, hx, fun id h _ => h⟩
        rw [← hlr]
        refine .list sz rows (some ⟨C.w.heap.size, 0, none⟩) rows.length (fun j => cells'[j]!) c4 (Nat.le_refl _) (by simp) g4 (fun _ => ⟨_, rfl, rfl⟩) (fun j av hj => ⟨g3 j av hj, fun ad ead => ?_⟩) (fun j av hj => ?_)
        · injection ead with ead
          subst ead
          have hjl : j < cells'.size := by
            have h1 := (List.getElem?_eq_some_iff.1 hj).1
            rw [g2.1] at h1
            simpa using h1
          refine ⟨?_, fun hm => ?_⟩
          · simp only [World.cell?, alloc_new, Nat.zero_add]
            rw [getElem!_pos cells' j hjl]
            simp
          · rcases hm with hm | ⟨id, ob, e1, e2, _⟩
            · exact absurd (hr.xlt _ _ hm) (Nat.lt_irrefl _)
            · exact absurd (obj_lt (hr.obj id ob e1) e2) (Nat.lt_irrefl _)
        · have hjl : j < cells'.size := by
            have h1 := (List.getElem?_eq_some_iff.1 hj).1
            rw [g2.1] at h1
            simpa using h1
          have := g2.2 j av cells'[j]! hj (by rw [getElem!_pos cells' j hjl]; simp)
          exact this.ext hx
      · cases h
    · cases h
  · cases hc
theorem ok_mkl {e sz : Nat} {zero : List AV} {n : Nat} {parts : List (Nat × AX)} {raw : Bool} (sim : SimE nt s.env C a) (hH : C.H = s.heap) (hr : HRep C) (hq : ∀ id, (s.p ++ [s.k]) <+: id → C.Av id)
    (hc : chkIns P o (.mkl e sz zero n parts raw) = true) (h : ains (.mkl e sz zero n parts raw) s = some (av, s')) : OpRes C (s.p ++ [s.k]) ((execOp a.eval o).run P C.w) av s'.heap := by
  simp only [ains] at h
  simp only [chkIns] at hc
  split at hc
  · rename_i t len ps eo
    simp only [Bool.and_eq_true, decide_eq_true_eq, beq_iff_eq] at hc
    obtain ⟨⟨⟨⟨⟨⟨⟨c1, c2⟩, c3⟩, c4⟩, rfl⟩, c6⟩, c8⟩, c7⟩ := hc
    have hu := sliceIs_iff c1
    obtain ⟨ie, hie, hsz⟩ := sizeIs_iff c2
    obtain ⟨ie', z, hie', hz, hzc⟩ := zeroIs_iff c3
    rw [hie] at hie'; injection hie' with hie'; subst hie'
    split at h
    · rename_i l H epo
      split at h
      · rename_i rows erows
        simp only [Option.some.injEq, Prod.mk.injEq] at h
        obtain ⟨rfl, rfl⟩ := h
        rw [← hH] at epo
        obtain ⟨f1, f2⟩ := partsOf_ok ps.toList parts C l H c7 epo sim hr
        have em : (ps.map fun (i, x) => (i, a.eval x)).toList = ps.toList.map fun x => (x.1, a.eval x.2) := by simp
        by_cases hlen : len = 0
        · subst hlen
          have hl0 : l = [] := by
            cases l with
            | nil => rfl
            | cons p l => obtain ⟨i, cs⟩ := p; simp [setRows] at erows
          subst hl0
          simp only [List.replicate_zero, setRows, Option.some.injEq] at erows
          subst erows
          have hps : ps.toList = [] := by cases hps : ps.toList with
            | nil => rfl
            | cons p ps' => rw [hps] at f2; cases f2
          have hps' : ps = #[] := by apply Array.ext'; simpa using hps
          subst hps'
          refine .new (C := { C with H := H }) (C0 := C) (o := .row true (!raw) e sz []) (v := .slice (some ⟨C.w.heap.size, 0, none⟩) 0 0) (w := C.w.alloc (.cells #[] e)) (f1.hrep hr) hq ⟨rfl, rfl⟩ f1.ext ?_ rfl (by simp [alloc_heap]) (fun k hk => alloc_old _ _ _ hk) rfl rfl rfl (by intro g hg; simp [blk] at hg; subst hg; exact Nat.le_refl _) (fun _ => rep_own_new rfl ⟨_, _, _, rfl⟩) (fun _ => ?_)
          · have e0 : Array.range 0 = #[] := rfl
            simp [execOp, eo, Instr.buildSlice, run_underlying hu, sizeOf, typeInfo, hie, Instr.fill, newRow, e0]
          · refine ⟨c4, by simp, by intro j av; simp, [], ⟨by simp, .inr ⟨C.w.heap.size, 0, #[], by rw [put_self]; rfl, Nat.zero_le _, alloc_new _ _, Nat.le_refl _, Nat.zero_le _, by simp, by simp⟩⟩, .nil⟩
        · have hpos : ¬ len * ie.size = 0 := by
            rw [hsz]
            intro h0
            rcases Nat.mul_eq_zero.1 h0 with h0 | h0
            · exact hlen h0
            · omega
          obtain ⟨z1, z2⟩ := zero_rep { C with H := H } hzc len (by omega)
          rw [c8] at z1
          have hrow0 : ∀ r ∈ List.replicate len zero, r.length = sz := fun r hr => by rw [(List.mem_replicate.1 hr).2]; exact c8
          obtain ⟨cells', g1, g2, g3, g4, g5⟩ := fill_rows (C := { C with H := H }) ps.toList l _ rows _ f2 hrow0 z1 z2 erows
          have hlr : rows.length = len := by rw [g5]; simp
          have hcs : cells'.size = len * sz := by have := g2.1; rw [flat_len g4, hlr] at this; simpa using this.symm
          have hrun : (execOp a.eval o).run P C.w = .ok (.value (.slice (some ⟨C.w.heap.size, 0, none⟩) len len)) (C.w.alloc (.cells cells' e)) := by
            have := run_buildSlice (P := P) C.w t e len (ps.map fun (i, x) => (i, a.eval x)) cells' ie z hu hie hz (by rw [hsz]; omega) hpos (by rw [em, hsz]; exact g1)
            simp only [execOp, eo, Sem.run_bind, this]
            rfl
          refine .new (C := { C with H := H }) (C0 := C) (o := .row true (!raw) e sz rows) (v := .slice (some ⟨C.w.heap.size, 0, none⟩) len len) (w := C.w.alloc (.cells cells' e)) (f1.hrep hr) hq ⟨rfl, rfl⟩ f1.ext hrun rfl (by simp [alloc_heap]) (fun k hk => alloc_old _ _ _ hk) rfl rfl rfl (by intro g hg; simp [blk] at hg; subst hg; exact Nat.le_refl _) (fun _ => rep_own_new hlr ⟨_, _, _, rfl⟩) (fun he => ?_)
          have hlen2 : len ≤ len * sz := Nat.le_mul_of_pos_right _ c4
          refine ⟨c4, g4, g3, cells'.toList, ⟨by simp [hcs, hlr], .inr ⟨C.w.heap.size, len, cells', by rw [put_self, hlr], Nat.zero_le _, alloc_new _ _, by omega, by simp only [maxLen]; omega, hcs, ?_⟩⟩, g2.mono fun _ _ r => r.ext he⟩
          rw [hlr, ← hcs]
          exact List.take_of_length_le (by simp)
      · cases h
    · cases h
  · cases hc

theorem ok_mks {e sz bytes : Nat} {zero : List AV} {l : AX} (sim : SimE nt s.env C a) (hH : C.H = s.heap) (hr : HRep C) (hq : ∀ id, (s.p ++ [s.k]) <+: id → C.Av id)
    (hc : chkIns P o (.mks e sz bytes zero l) = true) (h : ains (.mks e sz bytes zero l) s = some (av, s')) : OpRes C (s.p ++ [s.k]) ((execOp a.eval o).run P C.w) av s'.heap := by
  simp only [ains] at h
  simp only [chkIns] at hc
  split at hc
  · rename_i t l' c' eo
    simp only [Bool.and_eq_true, decide_eq_true_eq, beq_iff_eq] at hc
    obtain ⟨⟨⟨⟨⟨⟨⟨⟨c1, c2⟩, c3⟩, c4⟩, c5⟩, c6⟩, c7⟩, c8⟩, c9⟩ := hc
    have hu := sliceIs_iff c3
    obtain ⟨ie, hie, hsz⟩ := sizeIs_iff c4
    obtain ⟨ie', hie', hby⟩ := bytesIs_iff c5
    rw [hie] at hie'; injection hie' with hie'; subst hie'
    obtain ⟨ie', z, hie', hz, hzc⟩ := zeroIs_iff c6
    rw [hie] at hie'; injection hie' with hie'; subst hie'
    have hl := rep_opd sim c1
    have hcap := rep_opd sim c2
    split at h
    · rename_i n en
      rw [en] at hl hcap
      split at h
      · rename_i hn
        obtain ⟨h0, hb⟩ := hn
        simp only [Option.some.injEq, Prod.mk.injEq] at h
        obtain ⟨rfl, rfl⟩ := h
        have hn1 : n ≤ n * bytes := by
          have h1 : (1 : Int) ≤ bytes := by omega
          have := Int.mul_le_mul_of_nonneg_left h1 h0
          simpa using this
        have hrun := run_make (P := P) C.w t e ie z hu hie hz .i64 .i64 n n h0 (Int.le_refl _) (by rw [hby, Int.mul_comm]; omega) (by omega)
        obtain ⟨z1, z2⟩ := zero_rep (C.put (hadd C.H (s.p ++ [s.k]) (.row true true e sz (List.replicate n.toNat zero))) (s.p ++ [s.k]) (.slice (some ⟨C.w.heap.size, 0, none⟩) n.toNat n.toNat) (C.w.alloc (.cells (madeCells z.cells (n.toNat * ie.size)) e)) (less C.Av (s.p ++ [s.k]))) hzc n.toNat (by omega)
        have hrow0 : ∀ r ∈ List.replicate n.toNat zero, r.length = sz := fun r hr => by rw [(List.mem_replicate.1 hr).2]; exact c9
        refine .new (o := .row true true e sz (List.replicate n.toNat zero)) (v := .slice (some ⟨C.w.heap.size, 0, none⟩) n.toNat n.toNat) (w := C.w.alloc (.cells (madeCells z.cells (n.toNat * ie.size)) e)) hr hq ⟨rfl, rfl⟩ (Ext.refl C) ?_ (by simp [St.add, hH]) (by simp [alloc_heap]) (fun k hk => alloc_old _ _ _ hk) rfl rfl rfl (by intro g hg; simp [blk] at hg; subst hg; exact Nat.le_refl _) (fun _ => rep_own_new (by simp [asize]) ⟨_, _, _, rfl⟩) (fun he => ?_)
        · simp only [execOp, eo, hl.int_inv, hcap.int_inv, Sem.run_bind, hrun]
          rfl
        · have hms : (madeCells z.cells (n.toNat * ie.size)).size = n.toNat * sz := by rw [size_madeCells, hsz]
          refine ⟨c7, hrow0, z2, (madeCells z.cells (n.toNat * ie.size)).toList, ⟨by simp [hms], .inr ⟨C.w.heap.size, n.toNat, madeCells z.cells (n.toNat * ie.size), by rw [put_self]; simp, Nat.zero_le _, alloc_new _ _, by simp, by simp only [maxLen]; omega, hms, ?_⟩⟩, ?_⟩
          · rw [List.length_replicate, ← hms]
            exact List.take_of_length_le (by simp)
          · have hzl : zero.length = ie.size := c9.trans hsz.symm
            rw [hzl] at z1
            exact z1
      · cases h
    · cases h
  · cases hc

end
end Go.Proofs.Abs

set_option linter.all false
set_option linter.constructorNameAsVariable false
set_option linter.defProp false
set_option linter.unusedVariables false
set_option linter.unusedSimpArgs false
namespace Go.Proofs.Abs
open Go

section
variable {P : Program} {o : Oper} {a : Act} {C : Ctx} {nt : Nat} {s s' : St} {av : AV}

theorem OpRes.set {C C0 : Ctx} {q : Id} {r : Result Next} {av : AV} {H' : Heap} {id : Id} {ob ob' : AObj} {v : Value} {w : World} {nv : Next} (hr : HRep C) (he0 : Ext C0 C) (h0 : C0.Av = C.Av)
    (hs : SetOk C id ob ob' v w) (ho : Ext C (C.put (hset C.H id ob') id v w C.Av) → ObjRep (C.put (hset C.H id ob') id v w C.Av) id ob')
    (hrun : r = .ok nv w) (hnv : (∃ u, nv = .value u ∧ (Ext C (C.put (hset C.H id ob') id v w C.Av) → Rep (C.put (hset C.H id ob') id v w C.Av) av u)) ∨ (nv = .skip ∧ av = .undef)) (hH : H' = hset C.H id ob') : OpRes C0 q r av H' := by
  have he := Ext.set hs
  refine ⟨_, nv, hrun, ?_, hH.symm, HRep.set hr hs ho, he0.trans he, fun i h1 _ => h0 ▸ h1⟩
  rcases hnv with ⟨u, h1, h2⟩ | h
  · exact .inl ⟨u, h1, h2 he⟩
  · exact .inr h

theorem RepL.of_eq {C : Ctx} {xs : List AV} {vs vs' : List Value} (h : RepL C xs vs) (e : vs = vs') : RepL C xs vs' := e ▸ h

theorem rep_own_set {C : Ctx} {id : Id} {ob ob' : AObj} {v : Value} {w : World} {n : Nat} (hg : hget C.H id = some ob) (ha : ¬ C.Av id) (hn : asize ob' = n) (hs : ∃ a l c, v = .slice a l c) : Rep (C.put (hset C.H id ob') id v w C.Av) (.own id n) v := by
  refine .own id n v ha hs fun o' e => ?_
  have e' : hget (hset C.H id ob') id = some o' := e
  rw [hset_some hg, if_pos rfl] at e'
  injection e' with e'
  subst e'
  exact ⟨by omega, fun _ => .inl (put_self _ _ _ _ _ _).symm⟩

theorem run_append_zero (w : World) (t ty e : TypeId) (i : TypeInfo) (ht : P.underlying t = some (.slice e)) (hi : P.info? e = some i) (b : Option Addr) (n cap : Nat) (hle : n ≤ cap) (x : Option Addr) (c : Nat) :
    (Builtin.append_ #[t, t] ty #[.slice b n cap, .slice x 0 c]).run P w = .ok (.slice b n cap) w := by
  have hf : (Builtin.firstCells i.size 0 (.slice x 0 c)).run P w = .ok #[] w := by
    cases x <;> simp [Builtin.firstCells, loadCells, loadCellsFrom]
  cases b with
  | none => simp [Builtin.append_, run_underlying ht, sizeOf, typeInfo, hi, Builtin.lenOf, hf, hle]
  | some ad => simp [Builtin.append_, run_underlying ht, sizeOf, typeInfo, hi, Builtin.lenOf, hf, hle, storeCells]

theorem run_append_other {w : World} {t u e : TypeId} (ht : P.underlying t = some (.slice e)) (hu : P.underlying u = some (.slice e)) {ty : TypeId} {args : Array Value} :
    (Builtin.append_ #[t, u] ty args).run P w = (Builtin.append_ #[t, t] ty args).run P w := by
  simp only [Builtin.append_, List.getElem?_toArray, List.getElem?_cons_zero, List.getElem?_cons_succ]
  cases args[0]? with
  | none => rfl
  | some s => cases args[1]? with
    | none => rfl
    | some x => cases s <;> simp [run_underlying ht, run_underlying hu]
theorem app_core {e sz bytes : Nat} {x' y' : Operand} {t t' : Nat} {ie : TypeInfo} {z : Value} {q : Id} {H H' : Heap} {xv yv : AV} (hH : C.H = H) (hr : HRep C)
    (eo : o.op = .call { callee := .builtin .append, args := #[x', y'], argTypes := #[t, t'] }) (hu : P.underlying t = some (.slice e)) (hu' : P.underlying t' = some (.slice e)) (hie : P.info? e = some ie) (hsz : ie.size = sz) (hby : ie.bytes = bytes) (hz : ie.zero = some z) (hzs : z.cells.size = sz) (c8 : 0 < sz) (c9 : 0 < bytes)
    (hx : Rep C xv (a.eval x')) (hy : Rep C yv (a.eval y')) (h : appG e sz bytes xv yv H = some (av, H')) :
    OpRes C q ((execOp a.eval o).run P C.w) av H' := by
  simp only [appG] at h
  split at h
  · rename_i new enew
    rw [← hH] at enew
    obtain ⟨base, ycap, hyv, hycap, hnr, hnc, news, hnl, hna⟩ := rowsOf_rep hr enew hy c8
    have hnlen : news.length = new.length * sz := by rw [← hnl.1, flat_len hnr]
    have hnone : ∀ u ∈ news, u.oneCell' = true := by
      intro u hu'
      obtain ⟨j, hj, ej⟩ := List.getElem_of_mem hu'
      have hj' : j < new.flatten.length := by rw [hnl.1]; exact hj
      exact ((hnl.2 j _ _ (List.getElem?_eq_getElem hj') (by rw [List.getElem?_eq_getElem hj, ej])).cell (hnc j _ (List.getElem?_eq_getElem hj'))).1
    split at h
    · rename_i id n
      split at h
      · rename_i wr flat el sz' rows ho
        rw [← hH] at ho
        split at h
        · rename_i hcond
          obtain ⟨rfl, rfl, hn, hbound⟩ := hcond
          simp only [Option.some.injEq, Prod.mk.injEq] at h
          obtain ⟨rfl, rfl⟩ := h
          generalize hfl : (flat && _ : Bool) = flg'
          obtain ⟨h0, h1, h2, xs, h3, h4⟩ := hr.obj id _ ho
          have hxv : a.eval x' = C.φ id ∨ (n = 0 ∧ C.φ id = .slice none 0 0 ∧ ∃ b, a.eval x' = .slice b 0 0) := by
            generalize a.eval x' = xv at hx ⊢
            cases hx with
            | own _ _ _ ha hs hoo => exact (hoo _ ho).2 hn
          have hnav := hr.av id _ ho
          have hrr : ∀ r ∈ rows ++ new, r.length = sz' := fun r hr' => (List.mem_append.1 hr').elim (h1 r) (hnr r)
          have hcc : Cells (rows ++ new).flatten := by rw [List.flatten_append]; exact h2.app hnc
          have hsize : asize (AObj.row wr flg' el sz' (rows ++ new)) = n + new.length := by simp [asize, hn]
          have hrunc : ∀ v w, (Builtin.append_ #[t, t] o.type #[a.eval x', a.eval y']).run P C.w = .ok v w → (execOp a.eval o).run P C.w = .ok (.value v) w := by
            intro v w hv
            rw [call_args eo]
            simp only [builtin, Sem.run_bind]
            rw [show (#[x', y'].map a.eval) = #[a.eval x', a.eval y'] from by simp, run_append_other (w := C.w) hu hu', hv]
            rfl
          have hn63 : n + new.length ≤ 140737488355328 := Nat.le_trans (Nat.le_mul_of_pos_right _ c9) hbound
          by_cases hm : new.length = 0
          · -- nothing is appended
            have hnn : new = [] := List.eq_nil_of_length_eq_zero hm
            subst hnn
            obtain ⟨b0, cap0, hhd, hcap0⟩ : ∃ b0 cap0, a.eval x' = .slice b0 n cap0 ∧ n ≤ cap0 := by
              rcases hxv with hxv | ⟨hn0, _, b, hxv⟩
              case inr => exact ⟨b, 0, by rw [hxv, hn0], by omega⟩
              rw [hxv]
              rcases h3.2 with ⟨hv, hn1⟩ | ⟨g, cap, cur, hv, _, _, hnc', _⟩
              · exact ⟨none, 0, by rw [hv]; congr 1; omega, by omega⟩
              · exact ⟨_, cap, by rw [hv, hn], by omega⟩
            have hrun := run_append_zero (P := P) C.w t o.type el ie hu hie b0 n cap0 hcap0 base ycap
            refine .set (ob := .row wr flat el sz' rows) (ob' := .row wr flg' el sz' (rows ++ [])) (v := C.φ id) (w := C.w) hr (Ext.refl C) rfl
              ⟨ho, rfl, by simp [asize], fun _ => rfl, Nat.le_refl _, rfl, rfl, rfl, fun _ _ _ => rfl, fun _ _ _ _ => rfl, .inl ⟨rfl, fun off hmm => by simpa [mutAt] using hmm⟩⟩
              (fun he => ⟨h0, by simpa using h1, by simpa using h2, xs, by rw [put_self, List.append_nil]; exact h3, by have h5 := h4.mono (fun _ _ r => r.ext he); rw [show (rows ++ ([] : List (List AV))).flatten = rows.flatten from by rw [List.append_nil]]; exact h5⟩)
              (hrunc _ _ (by rw [hyv, hhd]; exact hrun)) (.inl ⟨_, rfl, fun he => ?_⟩) (by rw [hH])
            rw [← hhd]
            exact hx.ext he
          · -- the new elements' place
            have hne : new ≠ [] := by intro hh; subst hh; exact hm rfl
            obtain ⟨ad, rfl⟩ : ∃ ad, base = some ad := by
              cases base with
              | some ad => exact ⟨ad, rfl⟩
              | none =>
                exfalso
                -- a slice without an array has no elements
                unfold rowsOf at enew
                split at enew
                · split at enew
                  · rename_i hs; subst hs; injection enew with enew; subst enew
                    rw [hyv] at hy
                    cases hy with
                    | list _ _ _ _ _ _ _ _ _ hb => obtain ⟨ad, h5, _⟩ := hb hne; cases h5
                  · cases enew
                · injection enew with enew; exact hne enew.symm
                · injection enew with enew; exact hne enew.symm
                · split at enew
                  · rename_i ho2
                    split at enew
                    · rename_i hcc2
                      injection enew with enew
                      subst enew
                      rw [hyv] at hy
                      cases hy with
                      | own _ _ _ ha hs hoo =>
                        rcases (hoo _ ho2).2 hcc2.2 with h6 | ⟨hn0, _⟩
                        case inr => exact hm (hcc2.2.trans hn0)
                        obtain ⟨_, _, _, xs2, h7, _⟩ := hr.obj _ _ ho2
                        rcases h7.2 with ⟨_, h8⟩ | ⟨g, cap, cur, h8, _⟩
                        · exact hm h8
                        · rw [h8] at h6; cases h6
                    · cases enew
                  · cases enew
                · cases enew
            have hnews := (hna ad rfl).2
            have hxl : xs.length = n * sz' := by rw [← hn]; exact h3.1
            have grown : ∀ old : Nat, old < n + new.length → ((Builtin.append_ #[t, t] o.type #[a.eval x', a.eval y']).run P C.w =
                  .ok (.slice (some ⟨C.w.heap.size, 0, none⟩) (n + new.length) (grownCap C.w (n + new.length) old el)) (C.w.drew.alloc (.cells (xs.toArray ++ news.toArray ++ Builtin.zeroCells z.cells (grownCap C.w (n + new.length) old el - (n + new.length))) el))) →
                OpRes C q ((execOp a.eval o).run P C.w) (.own id (n + new.length)) (hset H id (.row wr flg' el sz' (rows ++ new))) := by
              intro old hold hrun
              have hge := grownCap_ge C.w (n + new.length) old el
              have hcm : grownCap C.w (n + new.length) old el ≤ maxLen := grownCap_le_maxLen C.w (n + new.length) old el (by simp only [maxLen]; omega)
              have hw : ∀ k, k < C.w.heap.size → (C.w.drew.alloc (.cells (xs.toArray ++ news.toArray ++ Builtin.zeroCells z.cells (grownCap C.w (n + new.length) old el - (n + new.length))) el)).heap[k]? = C.w.heap[k]? := fun k hk => alloc_old C.w.drew _ k hk
              refine .set (ob := .row wr flat el sz' rows) (ob' := .row wr flg' el sz' (rows ++ new)) (v := .slice (some ⟨C.w.heap.size, 0, none⟩) (n + new.length) (grownCap C.w (n + new.length) old el)) (w := C.w.drew.alloc (.cells (xs.toArray ++ news.toArray ++ Builtin.zeroCells z.cells (grownCap C.w (n + new.length) old el - (n + new.length))) el)) hr (Ext.refl C) rfl
                ⟨ho, rfl, by simp [asize], fun he => by simp [asize] at he; exact absurd he hne, by rw [alloc_heap]; simp, rfl, rfl, rfl, fun k hk _ => hw k hk, fun g off hg _ => World.cell?_of_block (hw g (obj_lt (hr.obj id _ ho) hg)), .inr fun g hg => by simp [blk] at hg; omega⟩
                (fun he => ⟨h0, hrr, hcc, xs ++ news, ?_, ?_⟩) (hrunc _ _ hrun) (.inl ⟨_, rfl, fun _ => rep_own_set ho hnav hsize ⟨_, _, _, rfl⟩⟩) (by rw [hH])
              · rw [put_self]
                refine ⟨by simp [hxl, hnlen, hn, Nat.add_mul], .inr ⟨C.w.heap.size, _, _, by simp [hn], Nat.zero_le _, alloc_new C.w.drew _, by simp [hn]; omega, hcm, ?_, ?_⟩⟩
                · simp only [Array.size_append, List.size_toArray, size_zeroCells, hzs, hxl, hnlen, ← Nat.add_mul]
                  congr 1
                  omega
                · simp only [Array.toList_append, List.append_assoc]
                  have hl : (xs ++ news).length = (rows ++ new).length * sz' := by simp [hxl, hnlen, hn, Nat.add_mul]
                  rw [← List.append_assoc, ← hl]
                  exact List.take_left
              · rw [List.flatten_append]
                exact (h4.app hnl).mono fun _ _ r => r.ext he
            rcases h3.2 with ⟨hv, hn1⟩ | ⟨g, cap, cur, hv, _, hh, hnc', hcm', hcs, htake⟩
            · have hn0 : n = 0 := by omega
              subst hn0
              have hxn : xs = [] := List.eq_nil_of_length_eq_zero (by rw [hxl]; simp)
              subst hxn
              refine grown 0 (by omega) ?_
              rcases hxv with hxv | ⟨_, _, b, hxv⟩
              case inr =>
                have zero : ∀ x0 : Addr, (Builtin.append_ #[t, t] o.type #[.slice (some x0) 0 0, .slice (some ad) new.length ycap]).run P C.w = .ok (.slice (some ⟨C.w.heap.size, 0, none⟩) (0 + new.length) (grownCap C.w (0 + new.length) 0 el)) (C.w.drew.alloc (.cells (([] : List Value).toArray ++ news.toArray ++ Builtin.zeroCells z.cells (grownCap C.w (0 + new.length) 0 el - (0 + new.length))) el)) := fun x0 =>
                  run_append_grow (P := P) C.w t o.type el ie z hu hie hz x0 0 0 [] (by simp) (by simp) ad new.length ycap news (by rw [hsz]; exact hnlen) hnews (by omega) (by omega) (by rw [hby]; exact growslice_fits (by omega) hbound)
                cases b with
                | some x0 => rw [hxv, hyv]; exact zero x0
                | none =>
                  have hr1 := run_append_nil (P := P) C.w t o.type el ie z hu hie hz ad new.length ycap news (by rw [hsz]; exact hnlen) hnews (by omega) (by omega) (by rw [hby]; have h7 := hbound; rw [Nat.zero_add] at h7; omega)
                  rw [hxv, hyv]
                  simpa using hr1
              have hr1 := run_append_nil (P := P) C.w t o.type el ie z hu hie hz ad new.length ycap news (by rw [hsz]; exact hnlen) hnews (by omega) (by omega) (by rw [hby]; have h7 := hbound; rw [Nat.zero_add] at h7; omega)
              rw [hxv, hyv, hv]
              simpa using hr1
            · rcases hxv with hxv | ⟨_, hbad, _⟩
              case inr => rw [hv] at hbad; cases hbad
              by_cases hroom : n + new.length ≤ cap
              · -- in place
                have hfit : n * ie.size + news.length ≤ cur.size := by rw [hnlen, hcs, hsz, ← Nat.add_mul]; exact Nat.mul_le_mul_right _ hroom
                have hr1 := run_append_room (P := P) C.w t o.type el ie hu hie g n cap cur hh ad new.length ycap news (by rw [hsz]; exact hnlen) hnews hnone hroom hfit
                rw [hsz] at hr1 hfit
                have hold : ∀ k, k ≠ g → (C.w.setRow g (cur.toList.take (n * sz') ++ news ++ cur.toList.drop (n * sz' + news.length)).toArray).heap[k]? = C.w.heap[k]? := fun k hk => setRow_other C.w g k _ hk
                have hg' := setRow_heap C.w g cur (cur.toList.take (n * sz') ++ news ++ cur.toList.drop (n * sz' + news.length)).toArray el (0, 0) hh
                refine .set (ob := .row wr flat el sz' rows) (ob' := .row wr flg' el sz' (rows ++ new)) (v := .slice (some ⟨g, 0, none⟩) (n + new.length) cap) (w := C.w.setRow g (cur.toList.take (n * sz') ++ news ++ cur.toList.drop (n * sz' + news.length)).toArray) hr (Ext.refl C) rfl
                  ⟨ho, rfl, by simp [asize], fun he => by simp [asize] at he; exact absurd he hne, by simp [World.setRow], rfl, rfl, rfl, fun k hk hne' => hold k (fun e => hne' (by rw [hv, e]; rfl)), fun g' off hg2 hm2 => ?_, .inl ⟨by rw [hv]; rfl, fun off hmm => ?_⟩⟩
                  (fun he => ⟨h0, hrr, hcc, xs ++ news, ?_, ?_⟩) (hrunc _ _ (by rw [hxv, hyv, hv, hn]; exact hr1)) (.inl ⟨_, rfl, fun _ => rep_own_set ho hnav hsize ⟨_, _, _, rfl⟩⟩) (by rw [hH])
                · rw [hv] at hg2
                  have : g = g' := by simpa [blk] using hg2
                  subst this
                  have hoff : off < n * sz' := by
                    simp only [mutAt, not_or] at hm2
                    rw [hn] at hm2
                    omega
                  simp only [World.cell?, hg', hh]
                  simp only [Option.isSome_none, Bool.false_eq_true, if_false, List.getElem?_toArray]
                  rw [List.append_assoc, List.getElem?_append_left (by simp; omega), List.getElem?_take, if_pos hoff, Array.getElem?_toList]
                · simp only [mutAt] at hmm ⊢
                  rcases hmm with h' | h'
                  · exact .inl h'
                  · refine .inr (Nat.le_trans (Nat.mul_le_mul_right _ ?_) h')
                    simp
                · rw [put_self]
                  refine ⟨by simp [hxl, hnlen, hn, Nat.add_mul], .inr ⟨g, cap, _, by simp [hn], Nat.zero_le _, hg', by simp [hn]; omega, hcm', ?_, ?_⟩⟩
                  · simp only [List.size_toArray, List.length_append, List.length_take, List.length_drop, Array.length_toList]
                    omega
                  · have hl : (xs ++ news).length = (rows ++ new).length * sz' := by simp [hxl, hnlen, hn, Nat.add_mul]
                    rw [hn] at htake
                    simp only [htake]
                    rw [← hl]
                    exact List.take_left
                · rw [List.flatten_append]
                  exact (h4.app hnl).mono fun _ _ r => r.ext he
              · refine grown cap (by omega) ?_
                have holds : ∀ (j : Nat) u, xs[j]? = some u → C.w.cell? ((⟨g, 0, none⟩ : Addr).add j) = some u := fun j u ej => h3.cells (g := g) (by rw [hv]; rfl) j u ej
                have hr1 := run_append_grow (P := P) C.w t o.type el ie z hu hie hz ⟨g, 0, none⟩ n cap xs (by rw [hsz]; exact hxl) holds ad new.length ycap news (by rw [hsz]; exact hnlen) hnews (by omega) (by omega) (by rw [hby]; exact growslice_fits (by omega) hbound)
                rw [hxv, hyv, hv, hn]
                exact hr1
        · cases h
      · cases h
    · cases h
  · cases h
theorem ok_app {e sz bytes : Nat} {x y : AX} (sim : SimE nt s.env C a) (hH : C.H = s.heap) (hr : HRep C) (hq : ∀ id, (s.p ++ [s.k]) <+: id → C.Av id) (hc : chkIns P o (.app e sz bytes x y) = true) (h : ains (.app e sz bytes x y) s = some (av, s')) :
    OpRes C (s.p ++ [s.k]) ((execOp a.eval o).run P C.w) av s'.heap := by
  simp only [ains] at h
  simp only [chkIns] at hc
  split at hc
  · rename_i args ats eo
    split at hc
    · rename_i x' y' t t' eargs eats
      simp only [Bool.and_eq_true, decide_eq_true_eq, beq_iff_eq] at hc
      obtain ⟨⟨⟨⟨⟨⟨⟨⟨c1, c2⟩, c3⟩, c4⟩, c5⟩, c6⟩, c7⟩, c8⟩, c9⟩ := hc
      have ea : args = #[x', y'] := by apply Array.ext'; simpa using eargs
      have et : ats = #[t, t'] := by apply Array.ext'; simpa using eats
      subst ea; subst et
      have hu := sliceIs_iff c4
      have hu' := sliceIs_iff c3
      obtain ⟨ie, hie, hsz⟩ := sizeIs_iff c5
      obtain ⟨ie', hie', hby⟩ := bytesIs_iff c6
      rw [hie] at hie'; injection hie' with hie'; subst hie'
      obtain ⟨z, hz, hzs⟩ : ∃ z, ie.zero = some z ∧ z.cells.size = sz := by
        rw [hie] at c7
        simp only at c7
        split at c7
        · rename_i z ez; exact ⟨z, ez, by simpa using c7⟩
        · cases c7
      have hx := rep_opd sim c1
      have hy := rep_opd sim c2
      split at h
      · rename_i ex
        rw [ex] at hx
        split at h
        · rename_i v H1 hg
          simp only [Option.some.injEq, Prod.mk.injEq] at h
          obtain ⟨rfl, rfl⟩ := h
          generalize hqq : s.p ++ [s.k] = q at *
          have hA : ∀ i, less C.Av q i → C.Av i := fun i h => h.1
          have hid : ¬ less C.Av q q := fun h => h.2 (List.prefix_refl _)
          have ha : C.Av q := hq q (List.prefix_refl _)
          have hxn : a.eval x' = .slice none 0 0 := by
            generalize a.eval x' = xv at hx
            cases hx; rfl
          have he := Ext.new (o := .row true true e sz []) (v := .slice none 0 0) (w := C.w) hr ha hA (Nat.le_refl _) (fun _ _ => rfl) rfl rfl rfl (by simp [blk])
          have hr1 := HRep.new (o := .row true true e sz []) (v := .slice none 0 0) (w := C.w) hr ha hA hid (Nat.le_refl _) (fun _ _ => rfl) rfl rfl rfl (by simp [blk]) (fun _ => ⟨c8, by simp, by intro j av; simp, [], by rw [put_self]; exact World.ownsRow_nil _ _ _ _, .nil⟩)
          have hxo : Rep (C.put (hadd C.H q (.row true true e sz [])) q (.slice none 0 0) C.w (less C.Av q)) (.own q 0) (a.eval x') := by
            rw [hxn]; exact rep_own_new rfl ⟨_, _, _, rfl⟩
          obtain ⟨C', nv, k1, k2, k3, k4, k5, k6⟩ := app_core (C := C.put (hadd C.H q (.row true true e sz [])) q (.slice none 0 0) C.w (less C.Av q)) (q := q) rfl hr1 eo hu hu' hie hsz hby hz hzs c8 c9 hxo (hy.ext he) (by rw [← hH] at hg; exact hg)
          exact ⟨C', nv, k1, k2, k3, k4, he.trans k5, fun i h1 h2 => k6 i ⟨h1, h2⟩ h2⟩
        · cases h
      · split at h
        · rename_i v H1 hg
          simp only [Option.some.injEq, Prod.mk.injEq] at h
          obtain ⟨rfl, rfl⟩ := h
          exact app_core hH hr eo hu hu' hie hsz hby hz hzs c8 c9 hx hy hg
        · cases h
    · cases hc
  · cases hc

theorem take_seg {xs vs : List Value} {o n : Nat} (h : o + vs.length ≤ n) (hn : n ≤ xs.length) : (xs.take o ++ vs ++ xs.drop (o + vs.length)).take n = (xs.take n).take o ++ vs ++ (xs.take n).drop (o + vs.length) := by
  have h1 : (xs.take o ++ vs).length = o + vs.length := by simp; omega
  rw [List.take_append, h1, List.take_of_length_le (by omega), List.take_take, List.drop_take]
  congr 2
  rw [Nat.min_eq_left (by omega)]

theorem ok_store {raw : Bool} {m : Nat} {p x : AX} (sim : SimE nt s.env C a) (hH : C.H = s.heap) (hr : HRep C) (hc : chkIns P o (.store raw m p x) = true) (h : ains (.store raw m p x) s = some (av, s')) :
    OpRes C (s.p ++ [s.k]) ((execOp a.eval o).run P C.w) av s'.heap := by
  simp only [ains] at h
  simp only [chkIns] at hc
  split at hc
  · rename_i t p' x' eo
    simp only [Bool.and_eq_true] at hc
    obtain ⟨⟨⟨c1, c2⟩, c3⟩, c4⟩ := hc
    have hp := rep_opd sim c1
    have hx := rep_opd sim c2
    have hrunS : ∀ (g off : Nat) (cur : Array Value) (el : TypeId) (vs : List Value), a.eval p' = .pointer (some ⟨g, off, none⟩) → C.w.heap[g]? = some (.cells cur el (0, 0)) → (a.eval x').cells.toList = vs → vs.length = m → off + vs.length ≤ cur.size → (∀ u ∈ vs, u.oneCell' = true) →
        (execOp a.eval o).run P C.w = .ok .skip (C.w.setRow g (cur.toList.take off ++ vs ++ cur.toList.drop (off + vs.length)).toArray) := by
      intro g off cur el vs e1 e2 e3 e4 e5 e6
      have hst := run_storeCells_at P g off el vs 0 cur C.w e2 (by simpa using e5) e6
      simp only [Nat.add_zero] at hst
      have hsize : (a.eval x').cells.size = m := by rw [← e4, ← e3]; simp
      simp [execOp, eo, Instr.storeAt, e1, Instr.sureAddr, storeVar, run_sizeOf' c3, hsize, e3, hst]
    split at h
    · rename_i id n i j ep
      rw [ep] at hp
      split at h
      · rename_i flat el sz rows ho
        rw [← hH] at ho
        -- the value, kept for good or not
        have key : ∀ v H1, FlagLe C.H H1 → Rep { C with H := H1 } v (a.eval x') →
            (match cellsOf v, rows[i]?, hget H1 id with
              | some cs, some old, some (.row true _ _ _ _) => if rows.length = n ∧ cs.length = m ∧ j + m ≤ old.length then
                  some (AV.undef, { s with heap := hset H1 id (.row true (flat && !raw) el sz (rows.set i (old.take j ++ cs ++ old.drop (j + m)))) }) else none
              | _, _, _ => none) = some (av, s') → OpRes C (s.p ++ [s.k]) ((execOp a.eval o).run P C.w) av s'.heap := by
          intro v H1 hf hv h
          split at h
          · rename_i cs old f2 e2 sz2 rows2 ecs eold eh1
            split at h
            · rename_i hcond
              obtain ⟨hn, hcl, hjm⟩ := hcond
              simp only [Option.some.injEq, Prod.mk.injEq] at h
              obtain ⟨rfl, rfl⟩ := h
              -- the object is as it was
              obtain ⟨o1, e1, f1⟩ := hf.down id _ eh1
              rw [ho] at e1
              injection e1 with e1
              subst e1
              have hsame : f2 = flat ∧ e2 = el ∧ sz2 = sz ∧ rows2 = rows := by
                rcases f1 with h' | ⟨_, _, _, _, _, h', h''⟩
                · injection h' with a1 a2 a3 a4 a5; exact ⟨a2, a3, a4, a5⟩
                · cases h''
              obtain ⟨rfl, rfl, rfl, rfl⟩ := hsame
              have hr1 : HRep { C with H := H1 } := hf.hrep hr
              obtain ⟨r1, r2⟩ := cellsOf_rep hv ecs
              obtain ⟨h0, h1, h2, xs, h3, h4⟩ := hr1.obj id _ eh1
              have hol := h1 old (List.mem_of_getElem? eold)
              have hil := (List.getElem?_eq_some_iff.1 eold).1
              have hone : ∀ u ∈ (a.eval x').cells.toList, u.oneCell' = true := by
                intro u hu'
                obtain ⟨k, hk, ek⟩ := List.getElem_of_mem hu'
                have hk' : k < cs.length := by rw [r1.1]; exact hk
                exact ((r1.2 k _ _ (List.getElem?_eq_getElem hk') (by rw [List.getElem?_eq_getElem hk, ek])).cell (r2 k _ (List.getElem?_eq_getElem hk'))).1
              have hvl : (a.eval x').cells.toList.length = m := by rw [← r1.1]; exact hcl
              rcases h3.2 with ⟨hv0, hn0⟩ | ⟨g, cap, cur, hv0, _, hh, hnc', hcm', hcs, htake⟩
              · omega
              · have hv0' : C.φ id = .slice (some ⟨g, 0, none⟩) rows2.length cap := hv0
                have hpv : a.eval p' = .pointer (some ⟨g, i * sz2 + j, none⟩) := by
                  cases hp with
                  | ref _ _ _ _ _ ha hs hoo =>
                    obtain ⟨g', q1, q2⟩ := (hoo _ ho).2 hn
                    rw [hv0'] at q1
                    have : g = g' := by simpa [blk] using q1
                    subst this
                    simpa [cellsz] using q2
                have hbound : i * sz2 + j + m ≤ rows2.length * sz2 := by
                  have : (i + 1) * sz2 ≤ rows2.length * sz2 := Nat.mul_le_mul_right _ hil
                  rw [Nat.succ_mul] at this
                  omega
                have hcur : rows2.length * sz2 ≤ cur.size := by rw [hcs]; exact Nat.mul_le_mul_right _ hnc'
                have hrun := hrunS g (i * sz2 + j) cur e2 _ hpv hh rfl hvl (by rw [hvl]; omega) hone
                have hflat := flat_seg (sz := sz2) (cs := cs) (j := j) (by omega) h1 eold
                have hg' := setRow_heap C.w g cur (cur.toList.take (i * sz2 + j) ++ (a.eval x').cells.toList ++ cur.toList.drop (i * sz2 + j + (a.eval x').cells.toList.length)).toArray e2 (0, 0) hh
                rw [← hcl]
                refine .set (C := { C with H := H1 }) (C0 := C) (ob := .row true f2 e2 sz2 rows2) (ob' := .row true (f2 && !raw) e2 sz2 (rows2.set i (old.take j ++ cs ++ old.drop (j + cs.length)))) (v := C.φ id) (w := C.w.setRow g (cur.toList.take (i * sz2 + j) ++ (a.eval x').cells.toList ++ cur.toList.drop (i * sz2 + j + (a.eval x').cells.toList.length)).toArray) hr1 hf.ext rfl
                  ⟨eh1, rfl, by simp [asize], fun _ => rfl, by simp [World.setRow], rfl, rfl, rfl, fun k hk hne => setRow_other C.w g k _ (fun e => hne (by show _ = blk (C.φ id); rw [hv0', e]; rfl)), fun _ _ _ hm => absurd (.inl rfl) hm, .inl ⟨rfl, fun off hmm => .inl rfl⟩⟩
                  (fun he => ⟨h0, set_len h1 (by simp; omega), ?_, xs.take (i * sz2 + j) ++ (a.eval x').cells.toList ++ xs.drop (i * sz2 + j + (a.eval x').cells.toList.length), ?_, ?_⟩) hrun (.inr ⟨rfl, rfl⟩) rfl
                · rw [hflat]; exact ((h2.take _).app r2).app (h2.drop _)
                · rw [put_self]
                  have hxl := h3.1
                  have hvs : (a.eval x').cells.size = m := by simpa using hvl
                  refine ⟨by simp only [List.length_append, List.length_take, List.length_drop, List.length_set]; omega, .inr ⟨g, cap, _, by rw [List.length_set]; exact hv0', Nat.zero_le _, hg', by rw [List.length_set]; exact hnc', hcm', ?_, ?_⟩⟩
                  · simp only [List.size_toArray, List.length_append, List.length_take, List.length_drop, Array.length_toList]
                    rw [Nat.min_eq_left (by omega)]
                    omega
                  · rw [List.length_set]
                    simp only []
                    rw [take_seg (by omega) (by simpa using hcur), htake]
                · rw [hflat]
                  exact RepL.of_eq ((((h4.take (i * sz2 + j)).app r1).app (h4.drop (i * sz2 + j + cs.length))).mono fun _ _ r => r.ext he) (by rw [r1.1])
            · cases h
          · cases h
        cases raw with
        | true =>
          simp only [if_true] at h
          refine key _ C.H (.refl _) hx ?_
          rw [hH]
          exact h
        | false =>
          simp only [Bool.false_eq_true, if_false] at h
          cases hz : fz s.heap (x.ev s.env) with
          | none => rw [hz] at h; cases h
          | some q =>
            obtain ⟨v, H1⟩ := q
            rw [hz] at h
            obtain ⟨f1, _, f3⟩ := fzd_ok 4 _ _ _ _ hz
            rw [← hH] at f1
            exact key v H1 f1 (f3 C _ hH hr hx) h
      · rename_i cells ho
        rw [← hH] at ho
        split at h
        · rename_i cs ecs
          split at h
          · rename_i hcond
            obtain ⟨rfl, rfl, hcl, hjm⟩ := hcond
            simp only [Option.some.injEq, Prod.mk.injEq] at h
            obtain ⟨rfl, rfl⟩ := h
            obtain ⟨r1, r2⟩ := cellsOf_rep hx ecs
            obtain ⟨h0, g, cur, el, h1, h2, h3⟩ := hr.obj id _ ho
            have hone : ∀ u ∈ (a.eval x').cells.toList, u.oneCell' = true := by
              intro u hu'
              obtain ⟨k, hk, ek⟩ := List.getElem_of_mem hu'
              have hk' : k < cs.length := by rw [r1.1]; exact hk
              exact ((r1.2 k _ _ (List.getElem?_eq_getElem hk') (by rw [List.getElem?_eq_getElem hk, ek])).cell (r2 k _ (List.getElem?_eq_getElem hk'))).1
            have hvl : (a.eval x').cells.toList.length = m := by rw [← r1.1]; exact hcl
            have hpv : a.eval p' = .pointer (some ⟨g, j, none⟩) := by
              cases hp with
              | ref _ _ _ _ _ ha hs hoo =>
                obtain ⟨g', q1, q2⟩ := (hoo _ ho).2 rfl
                rw [h1] at q1
                have : g = g' := by simpa [blk] using q1
                subst this
                simpa [cellsz] using q2
            have hcsz : cells.length = cur.size := by have := h3.1; simpa using this
            have hrun := hrunS g j cur el _ hpv h2 rfl hvl (by rw [hvl]; omega) hone
            have hg' := setRow_heap C.w g cur (cur.toList.take j ++ (a.eval x').cells.toList ++ cur.toList.drop (j + (a.eval x').cells.toList.length)).toArray el (0, 0) h2
            refine .set (ob := .box cells) (ob' := .box (cells.take j ++ cs ++ cells.drop (j + m))) (v := C.φ id) (w := C.w.setRow g (cur.toList.take j ++ (a.eval x').cells.toList ++ cur.toList.drop (j + (a.eval x').cells.toList.length)).toArray) hr (Ext.refl C) rfl
              ⟨ho, rfl, Nat.le_refl _, fun _ => rfl, by simp [World.setRow], rfl, rfl, rfl, fun k hk hne => setRow_other C.w g k _ (fun e => hne (by rw [h1, e]; rfl)), fun _ _ _ hm => absurd trivial hm, .inl ⟨rfl, fun _ _ => trivial⟩⟩
              (fun he => ⟨((h0.take _).app r2).app (h0.drop _), g, _, el, by rw [put_self]; exact h1, hg', ?_⟩) hrun (.inr ⟨rfl, rfl⟩) (by rw [hH])
            simp only []
            exact RepL.of_eq ((((h3.take j).app r1).app (h3.drop (j + m))).mono fun _ _ r => r.ext he) (by rw [hvl])
          · cases h
        · cases h
      · cases h
    · cases h
  · cases hc

/-- The rest of a slice of one's own from an element on. -/
theorem ok_tlz {sz : Nat} {x i : AX} (sim : SimE nt s.env C a) (hH : C.H = s.heap) (hr : HRep C) (hc : chkIns P o (.tlz sz x i) = true) (h : ains (.tlz sz x i) s = some (av, s')) :
    OpRes C (s.p ++ [s.k]) ((execOp a.eval o).run P C.w) av s'.heap := by
  simp only [ains] at h
  simp only [chkIns] at hc
  split at hc
  · rename_i t x' i' eo
    simp only [Bool.and_eq_true] at hc
    obtain ⟨⟨⟨c1, c2⟩, c3⟩, c4⟩ := hc
    split at c3
    · rename_i el hu
      have hv := rep_opd sim c1
      have hi := rep_opd sim c2
      split at h
      · rename_i id n k0 k e1 e2
        rw [e1] at hv
        rw [e2] at hi
        split at h
        · rename_i e fl sz' rows ho
          rw [← hH] at ho
          split at h
          · rename_i hcond
            obtain ⟨rfl, hn, hk0, hkn⟩ := hcond
            obtain ⟨kn, rfl⟩ := Int.eq_ofNat_of_zero_le hk0
            simp only [Option.some.injEq, Prod.mk.injEq, Int.toNat_natCast] at h
            obtain ⟨rfl, rfl⟩ := h
            cases hv with
            | own _ _ _ ha hs hoo =>
              obtain ⟨h0, h1, h2, xs, h3, h4⟩ := hr.obj id _ ho
              rcases (hoo _ ho).2 hn with hhd | ⟨hn0, _⟩
              · rcases h3.2 with ⟨_, hn1⟩ | ⟨g, cap, cur, hv1, _, hh, hnc, _, hcs, htake⟩
                · omega
                · rw [hn] at hv1 hnc
                  have hxv : a.eval x' = .slice (some ⟨g, 0, none⟩) n cap := hhd.trans hv1
                  have hiv : a.eval i' = .int k0 (kn : Nat) := hi.int_inv
                  have hadd : (⟨g, 0, none⟩ : Addr).add (kn * sz') = ⟨g, kn * sz', none⟩ := by rw [add_none rfl]; simp
                  have hrun := run_bounds (P := P) (isSlice := true) (len := n) (cap := cap) (l := kn) (h := n) (m := cap) (lo := some (.int k0 (kn : Nat))) (hi := none) (mx := none) C.w
                    (.inr ⟨k0, rfl⟩) (.inl ⟨rfl, rfl⟩) (.inl ⟨rfl, rfl⟩) (by simp) (by omega) hnc (Nat.le_refl _)
                  have hne : ¬ cap = kn := by omega
                  refine .pure hr (v := .slice (some ⟨g, kn * sz', none⟩) (n - kn) (cap - kn)) ?_ ?_ hH
                  · simp [execOp, eo, hxv, hiv, Instr.sliceAt, run_underlying hu, Instr.slice, hrun, run_sizeOf' c3, hne, hadd]
                  · refine .tl id n kn _ ha ⟨_, _, _, rfl⟩ fun o' e' => ?_
                    rw [ho] at e'
                    injection e' with e'
                    subst e'
                    exact ⟨Nat.le_of_eq hn.symm, fun _ => ⟨g, cap, hv1, rfl⟩⟩
              · omega
          · cases h
        · cases h
      · cases h
    · cases c3
  · cases hc

theorem flatten_take {rows : List (List AV)} {sz : Nat} (hr : ∀ r ∈ rows, r.length = sz) (i : Nat) : (rows.take i).flatten = rows.flatten.take (i * sz) := by
  induction rows generalizing i with
  | nil => simp
  | cons r rows ih =>
    cases i with
    | zero => simp
    | succ i =>
      simp only [List.take_succ_cons, List.flatten_cons, ih (fun r h => hr r (List.mem_cons_of_mem _ h)) i]
      have hl := hr r (List.mem_cons_self ..)
      have e1 : r.take ((i + 1) * sz) = r := List.take_of_length_le (by rw [hl, Nat.succ_mul]; omega)
      have e2 : (i + 1) * sz - r.length = i * sz := by rw [hl, Nat.succ_mul]; omega
      rw [List.take_append, e1, e2]

/-- Elements cleared. -/
theorem ok_clr {e sz : Nat} {zero : List AV} {x : AX} (sim : SimE nt s.env C a) (hH : C.H = s.heap) (hr : HRep C) (hc : chkIns P o (.clr e sz zero x) = true) (h : ains (.clr e sz zero x) s = some (av, s')) :
    OpRes C (s.p ++ [s.k]) ((execOp a.eval o).run P C.w) av s'.heap := by
  simp only [ains] at h
  simp only [chkIns] at hc
  split at hc
  · rename_i args ats eo
    split at hc
    · rename_i x' t eargs eats
      simp only [Bool.and_eq_true, decide_eq_true_eq, beq_iff_eq] at hc
      obtain ⟨⟨⟨⟨⟨c1, c2⟩, c3⟩, c4⟩, c5⟩, c6⟩ := hc
      have hu := sliceIs_iff c2
      obtain ⟨ie, hie, hsz⟩ := sizeIs_iff c3
      obtain ⟨ie', z, hie', hz, hzc⟩ := zeroIs_iff c4
      rw [hie] at hie'; injection hie' with hie'; subst hie'
      have ea : args = #[x'] := by apply Array.ext'; simpa using eargs
      have et : ats = #[t] := by apply Array.ext'; simpa using eats
      subst ea; subst et
      have hv := rep_opd sim c1
      split at h
      · rename_i id n i e1
        rw [e1] at hv
        split at h
        · rename_i fl el sz' rows ho
          rw [← hH] at ho
          split at h
          · rename_i hcond
            obtain ⟨rfl, rfl, hn, hin⟩ := hcond
            simp only [Option.some.injEq, Prod.mk.injEq] at h
            obtain ⟨rfl, rfl⟩ := h
            cases hv with
            | tl _ _ _ _ ha hs hoo =>
              obtain ⟨h0, h1, h2, xs, h3, h4⟩ := hr.obj id _ ho
              obtain ⟨g, cap, hv1, hxv⟩ := (hoo _ ho).2 hn
              simp only [cellsz] at hxv
              rcases h3.2 with ⟨_, hn1⟩ | ⟨g', cap', cur, hv1', _, hh, hnc, hcm, hcs, htake⟩
              · omega
              · have hgg : g' = g ∧ cap' = cap := by
                  rw [hv1] at hv1'
                  injection hv1' with q1 q2 q3
                  injection q1 with q1
                  injection q1 with q1
                  exact ⟨q1.symm, q3.symm⟩
                obtain ⟨rfl, rfl⟩ := hgg
                obtain ⟨zr, zc⟩ := zero_rep C hzc (n - i) (by omega)
                have hzs : z.cells.size = sz' := by
                  have := (rep_constCells C hzc).1.1
                  simp at this
                  omega
                have hlen : (Builtin.zeroCells z.cells (n - i)).toList.length = (n - i) * sz' := by simp [size_zeroCells, hzs]
                have hmul : i * sz' + (n - i) * sz' = n * sz' := by rw [← Nat.add_mul]; congr 1; omega
                have hnc' : n * sz' ≤ cur.size := by rw [hcs]; exact Nat.mul_le_mul_right _ (by omega)
                have zr' : RepL C (List.replicate (n - i) zero).flatten (Builtin.zeroCells z.cells (n - i)).toList := by
                  have e0 : Builtin.zeroCells z.cells (n - i) = (Array.range ((n - i) * zero.length)).map (z.cells[· % z.cells.size]!) := by
                    rw [c5, ← hzs]; rfl
                  rw [e0]; exact zr
                have hone : ∀ u ∈ (Builtin.zeroCells z.cells (n - i)).toList, u.oneCell' = true := by
                  intro u hu'
                  obtain ⟨k, hk, ek⟩ := List.getElem_of_mem hu'
                  have hk' : k < (List.replicate (n - i) zero).flatten.length := by rw [zr'.1]; exact hk
                  exact ((zr'.2 k _ _ (List.getElem?_eq_getElem hk') (by rw [List.getElem?_eq_getElem hk, ek])).cell (zc k _ (List.getElem?_eq_getElem hk'))).1
                have hst := run_storeCells_at P g' (i * sz') el (Builtin.zeroCells z.cells (n - i)).toList 0 cur C.w hh (by rw [hlen]; omega) hone
                simp only [Nat.add_zero] at hst
                have hrun : (execOp a.eval o).run P C.w = .ok (.value (.tuple #[])) (C.w.setRow g' (cur.toList.take (i * sz') ++ (Builtin.zeroCells z.cells (n - i)).toList ++ cur.toList.drop (i * sz' + (Builtin.zeroCells z.cells (n - i)).toList.length)).toArray) := by
                  rw [call_args eo]
                  have hpos : n - i ≠ 0 := by omega
                  obtain ⟨m, hm⟩ := Nat.exists_eq_succ_of_ne_zero hpos
                  simp only [List.map_toArray, List.map_cons, List.map_nil, hxv]
                  simp [builtin, Builtin.clear_, run_underlying hu, run_zeroValue' hie hz, hm]
                  rw [hm] at hst
                  simp only [Nat.succ_eq_add_one] at hst
                  simp [hst]
                have hg' := setRow_heap C.w g' cur (cur.toList.take (i * sz') ++ (Builtin.zeroCells z.cells (n - i)).toList ++ cur.toList.drop (i * sz' + (Builtin.zeroCells z.cells (n - i)).toList.length)).toArray el (0, 0) hh
                have hrl : (rows.take i ++ List.replicate (n - i) zero).length = n := by simp; omega
                refine .set (ob := .row true fl el sz' rows) (ob' := .row true fl el sz' (rows.take i ++ List.replicate (n - i) zero)) (v := C.φ id) (w := C.w.setRow g' (cur.toList.take (i * sz') ++ (Builtin.zeroCells z.cells (n - i)).toList ++ cur.toList.drop (i * sz' + (Builtin.zeroCells z.cells (n - i)).toList.length)).toArray) hr (Ext.refl C) rfl
                  ⟨ho, rfl, by simp only [asize, hrl, hn]; exact Nat.le_refl _, fun _ => rfl, by simp [World.setRow], rfl, rfl, rfl, fun k hk hne => setRow_other C.w g' k _ (fun e => hne (by rw [hv1, e]; rfl)), fun _ _ _ hm => absurd (.inl rfl) hm, .inl ⟨rfl, fun off hmm => .inl rfl⟩⟩
                  (fun he => ⟨h0, ?_, ?_, xs.take (i * sz') ++ (Builtin.zeroCells z.cells (n - i)).toList, ?_, ?_⟩) hrun (.inl ⟨_, rfl, fun _ => .undef _⟩) (by rw [hH])
                · intro r hr'
                  rcases List.mem_append.1 hr' with h' | h'
                  · exact h1 r (List.mem_of_mem_take h')
                  · rw [(List.mem_replicate.1 h').2]; exact c5
                · rw [List.flatten_append, flatten_take h1]
                  exact (h2.take _).app zc
                · rw [put_self]
                  have hxl := h3.1
                  rw [hn] at hxl htake hnc
                  refine ⟨by rw [hrl]; simp only [List.length_append, List.length_take, hlen]; omega, .inr ⟨g', cap', _, by rw [hrl, hv1], Nat.zero_le _, hg', by rw [hrl]; exact hnc, hcm, ?_, ?_⟩⟩
                  · simp only [List.size_toArray, List.length_append, List.length_take, List.length_drop, Array.length_toList, hlen]
                    omega
                  · rw [hrl]
                    simp only []
                    rw [take_seg (by omega) (by simpa using hnc'), htake, List.drop_of_length_le (by rw [hlen, hxl]; omega), List.append_nil]
                · rw [List.flatten_append, flatten_take h1]
                  exact ((h4.take (i * sz')).app zr').mono fun _ _ r => r.ext he
          · cases h
        · cases h
      · cases h
    · cases hc
  · cases hc

end
end Go.Proofs.Abs

set_option linter.all false
set_option linter.constructorNameAsVariable false
set_option linter.defProp false
set_option linter.unusedVariables false
set_option linter.unusedSimpArgs false
namespace Go.Proofs.Abs
open Go

/-! ### Maps: keys -/
def fakeF (e : Nat) (i : Nat) : Field := { name := "x", type := e, offset := i, byteOffset := 0, embedded := false, tag := "", pkgPath := "" }
theorem eqItems_fields (d e : Nat) (xs ys : Array Value) : ∀ is : List Nat, Op.eqItems d e 1 xs ys is = Op.eqFields d xs ys (is.map (fakeF e))
  | [] => rfl
  | i :: is => by
    simp only [Op.eqItems, List.map_cons, Op.eqFields, eqItems_fields d e xs ys is]
    rw [if_pos (by simp [fakeF])]
    simp [fakeF]
theorem structCmp_fake {P : Program} {e : Nat} : ∀ (ks : List Nat) (n : Nat), ks.all (kindIs P e) = true → structCmp P ((List.range' n ks.length).map (fakeF e)) n ks = true
  | [], n, _ => rfl
  | k :: ks, n, h => by
    simp only [List.all_cons, Bool.and_eq_true] at h
    simp only [List.length_cons, List.range'_succ, List.map_cons, structCmp, Bool.and_eq_true]
    exact ⟨⟨⟨by simp [fakeF], by simp [fakeF]⟩, h.1⟩, structCmp_fake ks (n + 1) h.2⟩

section
variable {P : Program} {C : Ctx}
theorem bytes_refl (m : ByteArray) : (m == m) = true := by rw [beq_toListBytes]; simp
theorem bytes_eq {m m' : ByteArray} (h : (m == m') = true) : m = m' := by
  rw [beq_toListBytes, ByteArray.toList_eq, ByteArray.toList_eq] at h
  have h : m.data.toList = m'.data.toList := by simpa using h
  cases m; cases m'
  congr 1
  exact Array.ext' h
theorem check_basic {t k : Nat} (h : kindIs P t k = true) (em : Bool) (n : Nat) (v : Value) (w : World) : (Instr.checkKey em (n + 1) t v).run P w = .ok () w := by
  unfold Instr.checkKey
  unfold kindIs at h
  split at h
  · split at h
    · rename_i i e; simp [run_underlying e]
    · cases h
  · split at h
    · rename_i e; simp [run_underlying e]
    · cases h
  · split at h
    · rename_i e; simp [run_underlying e]
    · cases h
  · cases h
theorem kind_cases {t k : Nat} (h : kindIs P t k = true) : (k = 0 ∧ ∃ i, P.underlying t = some (.int i)) ∨ (k = 1 ∧ P.underlying t = some .bool) ∨ (k = 2 ∧ P.underlying t = some .string) := by
  unfold kindIs at h
  split at h
  · split at h
    · rename_i i e; exact .inl ⟨rfl, i, e⟩
    · cases h
  · split at h
    · rename_i e; exact .inr (.inl ⟨rfl, e⟩)
    · cases h
  · split at h
    · rename_i e; exact .inr (.inr ⟨rfl, e⟩)
    · cases h
  · cases h

theorem acells_refl_len {w : World} : ∀ {fs : List Field} {n : Nat} {ks : List Nat} {as : List AV} {r : Bool}, structCmp P fs n ks = true → acells ks as as = some r → r = true ∧ as.length = fs.length
  | [], n, ks, as, r, hs, h => by
    cases ks with
    | cons => simp [structCmp] at hs
    | nil =>
      cases as with
      | nil => simp [acells] at h; exact ⟨h, rfl⟩
      | cons => simp [acells] at h
  | f :: fs, n, ks, as, r, hs, h => by
    cases ks with
    | nil => simp [structCmp] at hs
    | cons k ks =>
      simp only [structCmp, Bool.and_eq_true] at hs
      unfold acells at h
      split at h
      · exact absurd ‹k :: ks = []› (List.cons_ne_nil _ _)
      · rename_i ks' k0 m r0 k0' m' r0' e0 e1
        injection e0 with e0 e0'
        injection e1 with e1 e1'
        injection e1 with e1 e1''
        subst e0; subst e0'; subst e1; subst e1'; subst e1''
        simp only [if_true, beq_self_eq_true, bytes_refl] at h
        obtain ⟨h1, h2⟩ := acells_refl_len (w := w) hs.2 h
        exact ⟨h1, by simp [h2]⟩
      · rename_i ks' m r0 m' r0' e0 e1
        injection e0 with e0 e0'
        injection e1 with e1 e1'
        injection e1 with e1
        subst e0; subst e0'; subst e1; subst e1'
        simp only [if_true, beq_self_eq_true, bytes_refl] at h
        obtain ⟨h1, h2⟩ := acells_refl_len (w := w) hs.2 h
        exact ⟨h1, by simp [h2]⟩
      · rename_i ks' m r0 m' r0' e0 e1
        injection e0 with e0 e0'
        injection e1 with e1 e1'
        injection e1 with e1
        subst e0; subst e0'; subst e1; subst e1'
        simp only [if_true, bytes_refl] at h
        obtain ⟨h1, h2⟩ := acells_refl_len (w := w) hs.2 h
        exact ⟨h1, by simp [h2]⟩
      · cases h

/-- Alike: the same values. -/
theorem acells_true : ∀ {ks : List Nat} {as bs : List AV} {xs ys : List Value}, acells ks as bs = some true → RepL C as xs → RepL C bs ys →
    xs = ys ∧ as = bs ∧ ∀ v ∈ xs, (∃ k n, v = .int k n) ∨ (∃ b, v = .bool b) ∨ ∃ s, v = .string s
  | ks, as, bs, xs, ys, h, r1, r2 => by
    have go : ∀ {x y : AV} {as bs : List AV} {xs ys : List Value}, RepL C (x :: as) xs → RepL C (y :: bs) ys → (∀ u v, Rep C x u → Rep C y v → u = v ∧ ((∃ k n, u = .int k n) ∨ (∃ b, u = .bool b) ∨ ∃ s, u = .string s)) → x = y →
        (∀ xs ys, RepL C as xs → RepL C bs ys → xs = ys ∧ as = bs ∧ ∀ v ∈ xs, (∃ k n, v = .int k n) ∨ (∃ b, v = .bool b) ∨ ∃ s, v = .string s) →
        xs = ys ∧ x :: as = y :: bs ∧ ∀ v ∈ xs, (∃ k n, v = .int k n) ∨ (∃ b, v = .bool b) ∨ ∃ s, v = .string s := by
      intro x y as bs xs ys r1 r2 hk hxy ih
      cases xs with
      | nil => have := r1.1; simp at this
      | cons u xs =>
        cases ys with
        | nil => have := r2.1; simp at this
        | cons v ys =>
          obtain ⟨h1, h2⟩ := hk u v (r1.2 0 _ _ rfl rfl) (r2.2 0 _ _ rfl rfl)
          obtain ⟨h3, h4, h5⟩ := ih xs ys ⟨by have := r1.1; simpa using this, fun j av v e e' => r1.2 (j + 1) av v e e'⟩ ⟨by have := r2.1; simpa using this, fun j av v e e' => r2.2 (j + 1) av v e e'⟩
          subst h1; subst h3; subst h4; subst hxy
          refine ⟨rfl, rfl, fun v hv => ?_⟩
          rcases List.mem_cons.1 hv with rfl | hv
          · exact h2
          · exact h5 v hv
    unfold acells at h
    split at h
    · have e1 : xs = [] := List.eq_nil_of_length_eq_zero r1.1.symm
      have e2 : ys = [] := List.eq_nil_of_length_eq_zero r2.1.symm
      subst e1; subst e2
      exact ⟨rfl, rfl, by simp⟩
    · rename_i ks' k0 m r0 k0' m' r0'
      split at h
      · rename_i hkk
        subst hkk
        split at h
        · rename_i hm
          have hm : m = m' := by simpa using hm
          subst hm
          exact go r1 r2 (fun u v hu hv => ⟨by rw [hu.int_inv, hv.int_inv], .inl ⟨_, _, hu.int_inv⟩⟩) rfl fun xs ys r1 r2 => acells_true h r1 r2
        · cases h
      · cases h
    · rename_i ks' m r0 m' r0'
      split at h
      · rename_i hm
        have hm : m = m' := by simpa using hm
        subst hm
        exact go r1 r2 (fun u v hu hv => ⟨by rw [hu.bool_inv, hv.bool_inv], .inr (.inl ⟨_, hu.bool_inv⟩)⟩) rfl fun xs ys r1 r2 => acells_true h r1 r2
      · cases h
    · rename_i ks' m r0 m' r0'
      split at h
      · rename_i hm
        have hm : m = m' := bytes_eq hm
        subst hm
        exact go r1 r2 (fun u v hu hv => ⟨by rw [hu.str_inv, hv.str_inv], .inr (.inr ⟨_, hu.str_inv⟩)⟩) rfl fun xs ys r1 r2 => acells_true h r1 r2
      · cases h
    · cases h

/-- A key's values: of one kind of cell, or of structs and arrays of such. -/
theorem key_equal {kt kd : Nat} {ks : List Nat} {x y : AV} {u v : Value} {r : Bool} (w : World) (hk : keyTy P kt kd ks = true) (h : keyEq kd ks x y = some r) (hx : Rep C x u) (hy : Rep C y v) :
    (Op.equal kt u v).run P w = .ok r w ∧ (r = true → u = v ∧ x = y ∧ Instr.sameBits 10000 u u = true) := by
  unfold keyEq at h
  split at h
  · rename_i k m k' m'
    split at h
    · rename_i hkk
      subst hkk
      rw [hx.int_inv, hy.int_inv]
      simp only [Option.some.injEq] at h
      subst h
      have hk' : kindIs P kt 0 = true := hk
      rcases kind_cases hk' with ⟨_, i, e⟩ | ⟨h0, _⟩ | ⟨h0, _⟩
      · refine ⟨run_equalIn_int w 9999 kt _ i m m' e, fun hb => ?_⟩
        have : m = m' := by simpa using hb
        subst this
        exact ⟨rfl, rfl, by simp [Instr.sameBits]⟩
      · cases h0
      · cases h0
    · cases h
  · rename_i m m'
    rw [hx.bool_inv, hy.bool_inv]
    simp only [Option.some.injEq] at h
    subst h
    have hk' : kindIs P kt 1 = true := hk
    rcases kind_cases hk' with ⟨h0, _⟩ | ⟨_, e⟩ | ⟨h0, _⟩
    · cases h0
    · refine ⟨run_equalIn_bool' w 9999 kt m m' e, fun hb => ?_⟩
      have : m = m' := by simpa using hb
      subst this
      exact ⟨rfl, rfl, by simp [Instr.sameBits]⟩
    · cases h0
  · rename_i m m'
    rw [hx.str_inv, hy.str_inv]
    simp only [Option.some.injEq] at h
    subst h
    have hk' : kindIs P kt 2 = true := hk
    rcases kind_cases hk' with ⟨h0, _⟩ | ⟨h0, _⟩ | ⟨_, e⟩
    · cases h0
    · cases h0
    · refine ⟨by rw [beq_toListBytes]; exact run_equalIn_string w 9999 kt m m' e, fun hb => ?_⟩
      have : m = m' := bytes_eq hb
      subst this
      exact ⟨rfl, rfl, by simp [Instr.sameBits, bytes_refl]⟩
  · rename_i as bs
    obtain ⟨xs, rfl, hx2, _⟩ := hx.agg_inv
    obtain ⟨ys, rfl, hy2, _⟩ := hy.agg_inv
    refine ⟨?_, fun hb => ?_⟩
    · simp only [keyTy] at hk
      split at hk
      · rename_i fs hu
        simp only [Bool.and_eq_true, Bool.not_eq_true'] at hk
        have hfo : P.fieldsOf kt = fs := by simp [Program.fieldsOf, hu]
        have := run_equalIn_struct (P := P) w 9999 kt xs.toArray ys.toArray (by rw [hfo]; exact hu) hk.1
        show (Op.equalIn 10000 kt _ _).run P w = _
        rw [this, hfo]
        exact run_fields (d := 9998) fs.toList 0 ks as bs r hk.2 (by simpa using hx2) (by simpa using hy2) h
      · rename_i n e hu
        simp only [Bool.and_eq_true, beq_iff_eq] at hk
        obtain ⟨⟨h1, h2⟩, h3⟩ := hk
        obtain ⟨ie, hi, hsz⟩ := sizeIs_iff h1
        have hce : P.cellsOf e = 1 := by
          have := run_sizeOf w hi
          have h4 : (sizeOf e).run P w = .ok ie.size w := by simp [sizeOf, run_typeInfo w hi]
          rw [h4] at this
          injection this with this
          rw [← this]; exact hsz
        show (Op.equalIn 10000 kt _ _).run P w = _
        rw [run_equalIn_array w 9999 xs.toArray ys.toArray hu hi, hce, eqItems_fields]
        have h5 := structCmp_fake (P := P) (e := e) ks 0 h3
        rw [h2, ← List.range_eq_range'] at h5
        exact run_fields (d := 9998) _ 0 ks as bs r h5 (by simpa using hx2) (by simpa using hy2) h
      · cases hk
    · subst hb
      obtain ⟨h1, h2, h3⟩ := acells_true h hx2 hy2
      subst h1; subst h2
      refine ⟨rfl, rfl, ?_⟩
      show Instr.sameBits (9999 + 1) (.agg xs.toArray) (.agg xs.toArray) = true
      simp only [Instr.sameBits, beq_self_eq_true, Bool.true_and, List.all_eq_true]
      intro p hp
      obtain ⟨i, hi, e⟩ := List.getElem_of_mem hp
      rw [List.getElem_zip] at e
      rw [← e]
      have hm : xs.toArray.toList[i]'(by simp at hi; simpa using hi) ∈ xs := by simp
      rcases h3 _ hm with ⟨k, n, e2⟩ | ⟨b, e2⟩ | ⟨s, e2⟩ <;> simp only [e2] <;> simp [Instr.sameBits, bytes_refl]
  · cases h

theorem check_fields {xs : List Value} {w : World} {em : Bool} : ∀ (fs : List Field) (n : Nat) (ks : List Nat) (as : List AV), structCmp P fs n ks = true → RepL C as (xs.drop n) → as.length = fs.length →
    (forIn fs PUnit.unit fun f _ => (do
      if f.name ≠ "_" then Instr.checkKey em 9999 f.type (← part f.type xs.toArray f.offset)
      pure (ForInStep.yield PUnit.unit) : Sem (ForInStep PUnit))).run P w = .ok PUnit.unit w
  | [], n, ks, as, hs, r1, hl => by simp
  | f :: fs, n, ks, as, hs, r1, hl => by
    cases ks with
    | nil => simp [structCmp] at hs
    | cons k ks =>
      simp only [structCmp, Bool.and_eq_true, beq_iff_eq, bne_iff_ne] at hs
      obtain ⟨⟨⟨s1, s2⟩, s3⟩, s4⟩ := hs
      cases as with
      | nil => simp at hl
      | cons x as =>
        have hl1 : n < xs.length := by have := r1.1; simp at this; omega
        have d1 : xs.drop n = xs[n] :: xs.drop (n + 1) := List.drop_eq_getElem_cons hl1
        rw [d1] at r1
        have t1 : RepL C as (xs.drop (n + 1)) := ⟨by have := r1.1; simp only [List.length_cons] at this; omega, fun j av v e e' => r1.2 (j + 1) av v e e'⟩
        have hp1 : (part f.type xs.toArray f.offset).run P w = .ok xs[n] w := by
          simp only [part, Sem.run_bind, run_isAgg (kind_agg s3), Result.andThen_ok, s2]
          simp [hl1]
        have hck : (Instr.checkKey em 9999 f.type xs[n]).run P w = .ok () w := by
          exact check_basic s3 em 9998 _ w
        simp only [List.forIn_cons, Sem.run_bind, hp1, hck, s1, ne_eq, not_false_eq_true, if_true, Result.andThen_ok, Sem.run_pure]
        exact check_fields fs (n + 1) ks as s4 t1 (by simpa using hl)

theorem check_items {xs : List Value} {w : World} {em : Bool} {e : Nat} {ie : TypeInfo} (hi : P.info? e = some ie) (hce : P.cellsOf e = 1) : ∀ (ks : List Nat) (n : Nat) (as : List AV), ks.all (kindIs P e) = true → RepL C as (xs.drop n) → as.length = ks.length →
    (forIn (List.range' n ks.length) PUnit.unit fun i _ => (do
      Instr.checkKey em 9999 e (← part e xs.toArray (i * (← sizeOf e)))
      pure (ForInStep.yield PUnit.unit) : Sem (ForInStep PUnit))).run P w = .ok PUnit.unit w
  | [], n, as, hs, r1, hl => by simp
  | k :: ks, n, as, hs, r1, hl => by
    simp only [List.all_cons, Bool.and_eq_true] at hs
    cases as with
    | nil => simp at hl
    | cons x as =>
      have hl1 : n < xs.length := by have := r1.1; simp at this; omega
      have d1 : xs.drop n = xs[n] :: xs.drop (n + 1) := List.drop_eq_getElem_cons hl1
      rw [d1] at r1
      have t1 : RepL C as (xs.drop (n + 1)) := ⟨by have := r1.1; simp only [List.length_cons] at this; omega, fun j av v e e' => r1.2 (j + 1) av v e e'⟩
      have hp1 : (part e xs.toArray (n * 1)).run P w = .ok xs[n] w := by
        simp only [part, Sem.run_bind, run_isAgg (kind_agg hs.1), Result.andThen_ok, Nat.mul_one]
        simp [hl1]
      have hck : (Instr.checkKey em 9999 e xs[n]).run P w = .ok () w := check_basic hs.1 em 9998 _ w
      simp only [List.length_cons, List.range'_succ, List.forIn_cons, Sem.run_bind, run_sizeOf w hi, hce, hp1, hck, Result.andThen_ok, Sem.run_pure]
      exact check_items hi hce ks (n + 1) as hs.2 t1 (by simpa using hl)

theorem key_check {kt kd : Nat} {ks : List Nat} {x : AV} {u : Value} {r : Bool} (w : World) (em : Bool) (hk : keyTy P kt kd ks = true) (h : keyEq kd ks x x = some r) (hx : Rep C x u) :
    (Instr.checkKey em 10000 kt u).run P w = .ok () w := by
  show (Instr.checkKey em (9999 + 1) kt u).run P w = .ok () w
  have basic : kindIs P kt kd = true → (Instr.checkKey em (9999 + 1) kt u).run P w = .ok () w := fun hk => by
    exact check_basic hk em 9999 _ w
  unfold keyEq at h
  split at h
  · exact basic hk
  · exact basic hk
  · exact basic hk
  · rename_i as bs e1
    obtain ⟨xs, rfl, hx2, _⟩ := hx.agg_inv
    simp only [keyTy] at hk
    split at hk
    · rename_i fs hu
      simp only [Bool.and_eq_true, Bool.not_eq_true'] at hk
      obtain ⟨_, h2⟩ := acells_refl_len (w := w) hk.2 h
      have := check_fields (C := C) (P := P) (xs := xs) (w := w) (em := em) fs.toList 0 ks _ hk.2 (by simpa using hx2) h2
      rw [Instr.checkKey]
      simp only [Sem.run_bind, run_underlying hu, Result.andThen_ok]
      rw [← Array.forIn_toList]
      simp only [Sem.run_bind] at this ⊢
      refine Eq.trans (b := (Result.ok PUnit.unit w).andThen fun a w' => (pure () : Sem Unit).run P w') ?_ rfl
      congr 1
    · rename_i n e hu
      simp only [Bool.and_eq_true, beq_iff_eq] at hk
      obtain ⟨⟨h1, h2⟩, h3⟩ := hk
      obtain ⟨ie, hi, hsz⟩ := sizeIs_iff h1
      have hce : P.cellsOf e = 1 := by
        have := run_sizeOf w hi
        have h4 : (sizeOf e).run P w = .ok ie.size w := by simp [sizeOf, run_typeInfo w hi]
        rw [h4] at this
        injection this with this
        rw [← this]; exact hsz
      have h5 := structCmp_fake (P := P) (e := e) ks 0 h3
      rw [h2] at h5
      obtain ⟨_, h6⟩ := acells_refl_len (w := w) h5 h
      have := check_items (C := C) (P := P) (xs := xs) (w := w) (em := em) hi hce ks 0 e1 h3 (by simpa using hx2) (by rw [h6]; simp [h2])
      rw [Instr.checkKey]
      simp only [Sem.run_bind, run_underlying hu, Result.andThen_ok]
      simp only [Std.Legacy.Range.forIn_eq_forIn_range', Std.Legacy.Range.size, Nat.sub_zero, Nat.add_one_sub_one, Nat.div_one, ← h2]
      rw [this]
      rfl
    · cases hk
  · cases h

end
end Go.Proofs.Abs

set_option linter.all false
set_option linter.constructorNameAsVariable false
set_option linter.defProp false
set_option linter.unusedVariables false
set_option linter.unusedSimpArgs false
namespace Go.Proofs.Abs
open Go

/-! ### Maps: looking a key up, and storing one -/
def mix (kd : Nat) (ks : List Nat) : List (AV × AV) → AV → Option (Option Nat)
  | [], k => match keyEq kd ks k k with
    | some _ => some none
    | none => none
  | (k', v) :: r, k => match keyEq kd ks k k' with
    | some true => some (some 0)
    | some false => (mix kd ks r k).map fun o => o.map (· + 1)
    | none => none

theorem mfind_mix {kd : Nat} {ks : List Nat} : ∀ {es : List (AV × AV)} {k : AV} {r : Option AV}, mfind kd ks es k = some r → ∃ o, mix kd ks es k = some o ∧ r = o.bind fun j => (es[j]?).map (·.2)
  | [], k, r, h => by
    simp only [mfind] at h
    split at h
    · rename_i b hb
      simp only [Option.some.injEq] at h
      subst h
      exact ⟨none, by simp [mix, hb], rfl⟩
    · cases h
  | (k', v) :: es, k, r, h => by
    simp only [mfind] at h
    split at h
    · rename_i hb
      simp only [Option.some.injEq] at h
      subst h
      exact ⟨some 0, by simp [mix, hb], rfl⟩
    · rename_i hb
      obtain ⟨o, h1, h2⟩ := mfind_mix h
      refine ⟨o.map (· + 1), by simp [mix, hb, h1], ?_⟩
      rw [h2]
      cases o <;> simp
    · cases h
theorem mput_mix {kd : Nat} {ks : List Nat} {v : AV} : ∀ {es es' : List (AV × AV)} {k : AV}, mput kd ks es k v = some es' → ∃ o, mix kd ks es k = some o ∧ es' = (match o with | none => es ++ [(k, v)] | some j => es.set j (k, v))
  | [], es', k, h => by
    simp only [mput] at h
    split at h
    · rename_i b hb
      simp only [Option.some.injEq] at h
      subst h
      exact ⟨none, by simp [mix, hb], rfl⟩
    · cases h
  | (k', v') :: es, es', k, h => by
    simp only [mput] at h
    split at h
    · rename_i hb
      simp only [Option.some.injEq] at h
      subst h
      exact ⟨some 0, by simp [mix, hb], rfl⟩
    · rename_i hb
      simp only [Option.map_eq_some_iff] at h
      obtain ⟨es2, h, rfl⟩ := h
      obtain ⟨o, h1, h2⟩ := mput_mix h
      refine ⟨o.map (· + 1), by simp [mix, hb, h1], ?_⟩
      rw [h2]
      cases o <;> simp
    · cases h

section
variable {P : Program} {C : Ctx} {kt kd : Nat} {ks : List Nat} {x : AV} {u : Value}
theorem repl_cons {y : AV} {as : List AV} {v : Value} {vs : List Value} (h : RepL C (y :: as) (v :: vs)) : Rep C y v ∧ RepL C as vs :=
  ⟨h.2 0 _ _ rfl rfl, ⟨by have := h.1; simpa using this, fun j av v e e' => h.2 (j + 1) av v e e'⟩⟩

theorem mix_typed (hk : keyTy P kt kd ks = true) (hx : Rep C x u) : ∀ {es : List (AV × AV)} {vs : List Value} {o : Option Nat}, RepL C (es.map (·.1)) vs → mix kd ks es x = some o → ∃ b, keyEq kd ks x x = some b
  | [], vs, o, _, h => by
    simp only [mix] at h
    split at h
    · rename_i b hb; exact ⟨b, hb⟩
    · cases h
  | (k', v) :: es, vs, o, hr, h => by
    cases vs with
    | nil => have := hr.1; simp at this
    | cons v0 vs =>
      obtain ⟨r1, r2⟩ := repl_cons hr
      simp only [mix] at h
      split at h
      · rename_i hb
        obtain ⟨_, h2⟩ := key_equal C.w hk hb hx r1
        obtain ⟨_, h3, _⟩ := h2 rfl
        refine ⟨true, ?_⟩
        have h3' : x = k' := h3
        rw [← h3'] at hb
        exact hb
      · simp only [Option.map_eq_some_iff] at h
        obtain ⟨o', h, _⟩ := h
        exact mix_typed hk hx r2 h
      · cases h

def Found (C : Ctx) (u : Value) (ents : List MapEntry) (i : Nat) (o : Option Nat) (f : Option (Nat × Value)) : Prop :=
  match o with
  | none => f = none
  | some j => ∃ e, ents[j]? = some e ∧ f = some (i + j, e.val) ∧ e.key = u ∧ Instr.sameBits 10000 e.key u = true

theorem found_step {e : MapEntry} {ents : List MapEntry} {i : Nat} {o : Option Nat} {f : Option (Nat × Value)} (h : Found C u ents (i + 1) o f) : Found C u (e :: ents) i (o.map (· + 1)) f := by
  cases o with
  | none => exact h
  | some j =>
    obtain ⟨e', h1, h2, h3, h4⟩ := h
    exact ⟨e', by simpa using h1, by rw [h2]; simp; omega, h3, h4⟩

theorem run_asking (hk : keyTy P kt kd ks = true) (hx : Rep C x u) : ∀ {es : List (AV × AV)} {ents : List MapEntry} {o : Option Nat} (i : Nat), RepL C (es.map (·.1)) (ents.map (·.key)) → mix kd ks es x = some o →
    ∃ f, (Instr.findAsking kt u ents i).run P C.w = .ok f C.w ∧ Found C u ents i o f
  | [], ents, o, i, hr, h => by
    cases ents with
    | cons => have := hr.1; simp at this
    | nil =>
      simp only [mix] at h
      split at h
      · simp only [Option.some.injEq] at h
        subst h
        exact ⟨none, by simp [Instr.findAsking], rfl⟩
      · cases h
  | (k', v) :: es, ents, o, i, hr, h => by
    cases ents with
    | nil => have := hr.1; simp at this
    | cons e ents =>
      obtain ⟨r1, r2⟩ := repl_cons hr
      have r1 : Rep C k' e.key := r1
      simp only [mix] at h
      split at h
      · rename_i hb
        simp only [Option.some.injEq] at h
        subst h
        obtain ⟨h1, h2⟩ := key_equal C.w hk hb hx r1
        obtain ⟨h3, _, h4⟩ := h2 rfl
        refine ⟨some (i, e.val), by simp [Instr.findAsking, h1], e, rfl, by simp, h3.symm, by rw [← h3]; exact h4⟩
      · rename_i hb
        obtain ⟨h1, _⟩ := key_equal C.w hk hb hx r1
        simp only [Option.map_eq_some_iff] at h
        obtain ⟨o', h, rfl⟩ := h
        obtain ⟨f, h2, h3⟩ := run_asking hk hx (i + 1) r2 h
        exact ⟨f, by simp [Instr.findAsking, h1, h2], found_step h3⟩
      · cases h

theorem run_now {d : TypeDesc} (hd : P.underlying kt = some d) (h3 : kd ≠ 3) (hk : keyTy P kt kd ks = true) (hx : Rep C x u) : ∀ {es : List (AV × AV)} {ents : List MapEntry} {o : Option Nat} (i : Nat), RepL C (es.map (·.1)) (ents.map (·.key)) → mix kd ks es x = some o →
    ∃ f, Instr.findNow d u ents i = some f ∧ Found C u ents i o f
  | [], ents, o, i, hr, h => by
    cases ents with
    | cons => have := hr.1; simp at this
    | nil =>
      simp only [mix] at h
      split at h
      · simp only [Option.some.injEq] at h
        subst h
        exact ⟨none, rfl, rfl⟩
      · cases h
  | (k', v) :: es, ents, o, i, hr, h => by
    cases ents with
    | nil => have := hr.1; simp at this
    | cons e ents =>
      obtain ⟨r1, r2⟩ := repl_cons hr
      have r1 : Rep C k' e.key := r1
      have hs : ∀ b, keyEq kd ks x k' = some b → Instr.sameNow d u e.key = some b := by
        intro b hb
        have hkk : kindIs P kt kd = true := by
          unfold keyTy at hk
          split at hk
          · exact absurd rfl h3
          · exact hk
        unfold keyEq at hb
        split at hb
        · split at hb
          · rename_i hkk2
            subst hkk2
            simp only [Option.some.injEq] at hb
            subst hb
            rw [hx.int_inv, r1.int_inv]
            rcases kind_cases hkk with ⟨_, i, e⟩ | ⟨h0, _⟩ | ⟨h0, _⟩
            · rw [hd] at e; injection e with e; subst e; simp [Instr.sameNow]
            · cases h0
            · cases h0
          · cases hb
        · simp only [Option.some.injEq] at hb
          subst hb
          rw [hx.bool_inv, r1.bool_inv]
          rcases kind_cases hkk with ⟨h0, _⟩ | ⟨_, e⟩ | ⟨h0, _⟩
          · cases h0
          · rw [hd] at e; injection e with e; subst e; simp [Instr.sameNow]
          · cases h0
        · simp only [Option.some.injEq] at hb
          subst hb
          rw [hx.str_inv, r1.str_inv]
          rcases kind_cases hkk with ⟨h0, _⟩ | ⟨h0, _⟩ | ⟨_, e⟩
          · cases h0
          · cases h0
          · rw [hd] at e; injection e with e; subst e; simp [Instr.sameNow]
        · exact absurd rfl h3
        · cases hb
      simp only [mix] at h
      split at h
      · rename_i hb
        simp only [Option.some.injEq] at h
        subst h
        obtain ⟨h1, h2⟩ := key_equal C.w hk hb hx r1
        obtain ⟨h3', _, h4⟩ := h2 rfl
        refine ⟨some (i, e.val), by simp [Instr.findNow, hs _ hb], e, rfl, by simp, h3'.symm, by rw [← h3']; exact h4⟩
      · rename_i hb
        simp only [Option.map_eq_some_iff] at h
        obtain ⟨o', h, rfl⟩ := h
        obtain ⟨f, h2, h5⟩ := run_now hd h3 hk hx (i + 1) r2 h
        exact ⟨f, by simp [Instr.findNow, hs _ hb, h2], found_step h5⟩
      · cases h

theorem run_find (hk : keyTy P kt kd ks = true) (hx : Rep C x u) {es : List (AV × AV)} {ents : List MapEntry} {o : Option Nat} (hr : RepL C (es.map (·.1)) (ents.map (·.key))) (h : mix kd ks es x = some o) :
    ∃ f, (Instr.findKey kt u ents).run P C.w = .ok f C.w ∧ Found C u ents 0 o f := by
  by_cases h3 : kd = 3
  · subst h3
    obtain ⟨f, h1, h2⟩ := run_asking hk hx 0 hr h
    refine ⟨f, ?_, h2⟩
    rw [run_findKey_eq C.w]
    · exact h1
    · simp only [keyTy] at hk
      split at hk
      · rename_i e; rw [e]
      · rename_i e; rw [e]
      · cases hk
  · have hkk : kindIs P kt kd = true := by
      unfold keyTy at hk
      split at hk
      · exact absurd rfl h3
      · exact hk
    have hd : ∃ d, P.underlying kt = some d := by rcases kind_cases hkk with ⟨_, i, e⟩ | ⟨_, e⟩ | ⟨_, e⟩ <;> exact ⟨_, e⟩
    obtain ⟨d, hd⟩ := hd
    obtain ⟨f, h1, h2⟩ := run_now hd h3 hk hx 0 hr h
    exact ⟨f, by simp [Instr.findKey, run_underlying hd, h1], h2⟩

theorem map_inv {id : Id} {es : List (AV × AV)} {v : Value} (hr : HRep C) (h : Rep C (.map id) v) (ho : hget C.H id = some (.map es)) :
    ∃ g ents clock, v = .map (some g) ∧ C.φ id = .map (some g) ∧ C.w.heap[g]? = some (.map ents clock) ∧ RepL C (es.map (·.1)) (ents.toList.map (·.key)) ∧ RepL C (es.map (·.2)) (ents.toList.map (·.val)) := by
  obtain ⟨g, ents, clock, h1, h2, h3, h4⟩ := hr.obj id _ ho
  refine ⟨g, ents, clock, ?_, h1, h2, h3, h4⟩
  cases h with
  | map _ _ ha hs hoo => rw [← h1]; exact hoo _ ho rfl
end

section
variable {P : Program} {o : Oper} {a : Act} {C : Ctx} {nt : Nat} {s s' : St} {av : AV}
theorem ok_look {kd : Nat} {ks : List Nat} {zero : AV} {ok : Bool} {m k : AX} (sim : SimE nt s.env C a) (hH : C.H = s.heap) (hr : HRep C) (hc : chkIns P o (.look kd ks zero ok m k) = true) (h : ains (.look kd ks zero ok m k) s = some (av, s')) :
    OpRes C (s.p ++ [s.k]) ((execOp a.eval o).run P C.w) av s'.heap := by
  simp only [ains] at h
  simp only [chkIns] at hc
  split at hc
  · rename_i t m' k' ok' eo
    simp only [Bool.and_eq_true, beq_iff_eq] at hc
    obtain ⟨⟨⟨rfl, c1⟩, c2⟩, c3⟩ := hc
    have hm := rep_opd sim c1
    have hx := rep_opd sim c2
    split at c3
    · rename_i kt e hu
      simp only [Bool.and_eq_true] at c3
      obtain ⟨c3, c4⟩ := c3
      have hz : ∃ ie z, P.info? e = some ie ∧ ie.zero = some z ∧ constOK z zero = true := by
        unfold zero1 at c4
        split at c4
        · rename_i ie hi
          split at c4
          · rename_i z hz; exact ⟨ie, z, hi, hz, c4⟩
          · cases c4
        · cases c4
      obtain ⟨ie, z, hi, hz, hzc⟩ := hz
      have hzr := rep_const C hzc
      split at h
      · rename_i id em
        rw [em] at hm
        split at h
        · rename_i es ho
          rw [← hH] at ho
          obtain ⟨g, ents, clock, h1, _, h2, h3, h4⟩ := map_inv hr hm ho
          have main : ∀ (r : Option AV), mfind kd ks es (k.ev s.env) = some r → ∃ v b, (match r with | some y => Rep C y v ∧ b = true | none => v = z ∧ b = false) ∧
              (execOp a.eval o).run P C.w = .ok (.value (if ok' then .tuple #[v, .bool b] else v)) C.w := by
            intro r hf
            obtain ⟨ix, h5, h6⟩ := mfind_mix hf
            obtain ⟨f, h7, h8⟩ := run_find c3 hx h3 h5
            obtain ⟨b, h9⟩ := mix_typed c3 hx h3 h5
            have h10 := key_check C.w ents.isEmpty c3 h9 hx
            cases ix with
            | none =>
              simp only [Option.bind_none] at h6
              subst h6
              have h8 : f = none := h8
              subst h8
              refine ⟨z, false, ⟨rfl, rfl⟩, ?_⟩
              simp [execOp, eo, Instr.lookup, run_underlying hu, h1, MapKept.run_getObj_map h2, h10, h7, run_zeroValue' hi hz]
            | some j =>
              obtain ⟨en, h11, rfl, h12, _⟩ := h8
              have hj : j < es.length := by
                have := (List.getElem?_eq_some_iff.1 h11).1
                have h13 := h3.1
                simp at h13
                simp at this
                omega
              simp only [Option.bind_some, List.getElem?_eq_getElem hj, Option.map_some] at h6
              subst h6
              refine ⟨en.val, true, ⟨h4.2 j _ _ (by simp [hj]) (by simp only [List.getElem?_map, h11]; rfl), rfl⟩, ?_⟩
              simp [execOp, eo, Instr.lookup, run_underlying hu, h1, MapKept.run_getObj_map h2, h10, h7]
          split at h
          · rename_i y hf
            simp only [Option.some.injEq, Prod.mk.injEq] at h
            obtain ⟨rfl, rfl⟩ := h
            obtain ⟨v, b, ⟨h5, rfl⟩, h6⟩ := main _ hf
            refine .pure hr h6 ?_ hH
            cases ok'
            · exact h5
            · exact .tuple _ [v, .bool true] rfl (RepL.cons h5 (RepL.cons (.bool true) .nil)).2
          · rename_i hf
            simp only [Option.some.injEq, Prod.mk.injEq] at h
            obtain ⟨rfl, rfl⟩ := h
            obtain ⟨v, b, ⟨rfl, rfl⟩, h6⟩ := main _ hf
            refine .pure hr h6 ?_ hH
            cases ok'
            · exact hzr
            · exact .tuple _ [v, .bool false] rfl (RepL.cons hzr (RepL.cons (.bool false) .nil)).2
          · cases h
        · cases h
      · cases h
    · cases c3
  · cases hc

theorem ok_mset {kd : Nat} {ks : List Nat} {m k v : AX} (sim : SimE nt s.env C a) (hH : C.H = s.heap) (hr : HRep C) (hc : chkIns P o (.mset kd ks m k v) = true) (h : ains (.mset kd ks m k v) s = some (av, s')) :
    OpRes C (s.p ++ [s.k]) ((execOp a.eval o).run P C.w) av s'.heap := by
  simp only [ains] at h
  have main : ∀ (t : Nat) (m' k' x : Operand) (kt e : Nat), (execOp a.eval o = do Instr.mapUpdate t (a.eval m') (a.eval k') (a.eval x); pure Next.skip) → opdOK m' m = true → opdOK k' k = true → opdOK x v = true → P.underlying t = some (.map kt e) → keyTy P kt kd ks = true →
      OpRes C (s.p ++ [s.k]) ((execOp a.eval o).run P C.w) av s'.heap := by
    intro t m' k' x kt e hex c1 c2 c3 hu c4
    have hm := rep_opd sim c1
    have hx := rep_opd sim c2
    have hv := rep_opd sim c3
    split at h
    · rename_i id em
      rw [em] at hm
      split at h
      · rename_i y H1 hz
        rw [← hH] at hz
        obtain ⟨f1, _, f3⟩ := fzd_ok 4 _ _ _ _ hz
        have hv1 := f3 C _ rfl hr hv
        have hr1 : HRep { C with H := H1 } := f1.hrep hr
        have hx1 := hx.ext f1.ext
        have hm1 := hm.ext f1.ext
        split at h
        · rename_i es ho
          split at h
          · rename_i es' hp
            simp only [Option.some.injEq, Prod.mk.injEq] at h
            obtain ⟨rfl, rfl⟩ := h
            obtain ⟨g, ents, clock, h1, hφ, h2, h3, h4⟩ := map_inv (C := { C with H := H1 }) hr1 hm1 ho
            obtain ⟨ix, h5, h6⟩ := mput_mix hp
            obtain ⟨f, h7, h8⟩ := run_find (C := { C with H := H1 }) c4 hx1 h3 h5
            obtain ⟨b, h9⟩ := mix_typed (C := { C with H := H1 }) c4 hx1 h3 h5
            have h10 := key_check (C := { C with H := H1 }) C.w false c4 h9 hx1
            have h2' : C.w.heap[g]? = some (.map ents clock) := h2
            have h7' : (Instr.findKey kt (a.eval k') ents.toList).run P C.w = .ok f C.w := h7
            have hglt : g < C.w.heap.size := (Array.getElem?_eq_some_iff.1 h2').1
            -- the world behind it
            have fin : ∀ (ents' : Array MapEntry) (clock' : Nat), (Instr.mapUpdate t (a.eval m') (a.eval k') (a.eval x)).run P C.w = .ok () { C.w with heap := C.w.heap.setIfInBounds g (.map ents' clock') } →
                (∀ C2 : Ctx, (∀ av v, Rep { C with H := H1 } av v → Rep C2 av v) → RepL C2 (es'.map (·.1)) (ents'.toList.map (·.key)) ∧ RepL C2 (es'.map (·.2)) (ents'.toList.map (·.val))) →
                OpRes C (s.p ++ [s.k]) ((execOp a.eval o).run P C.w) .undef (hset H1 id (.map es')) := by
              intro ents' clock' hrun hrep
              refine .set (C := { C with H := H1 }) (C0 := C) (ob := .map es) (ob' := .map es') (v := C.φ id) (w := { C.w with heap := C.w.heap.setIfInBounds g (.map ents' clock') }) (nv := .skip) hr1 f1.ext rfl
                ⟨ho, rfl, Nat.le_refl _, fun _ => rfl, by simp, rfl, rfl, rfl, fun j hj hne => ?_, fun _ _ _ hm => absurd trivial hm, .inl ⟨rfl, fun off hmm => trivial⟩⟩
                (fun he => ⟨g, ents', clock', by rw [put_self]; exact hφ, by show (C.w.heap.setIfInBounds g _)[g]? = _; simp [hglt], ?_⟩) ?_ (.inr ⟨rfl, rfl⟩) rfl
              · have hne' : g ≠ j := fun e => hne (by show some j = blk (C.φ id); have : C.φ id = .map (some g) := hφ; rw [this, ← e]; rfl)
                show (C.w.heap.setIfInBounds g _)[j]? = _
                rw [Array.getElem?_setIfInBounds_ne hne']
              · exact hrep _ fun _ _ r => r.ext he
              · rw [hex, Sem.run_bind, hrun]
                rfl
            cases ix with
            | none =>
              have h8 : f = none := h8
              subst h8
              simp only at h6
              refine fin (ents.push { key := a.eval k', val := a.eval x, born := clock }) (clock + 1) ?_ fun C2 hmono => ?_
              · simp [Instr.mapUpdate, run_underlying hu, h1, MapKept.run_getObj_map h2', h10, h7', MapKept.run_setObj_map _ h2']
              · rw [h6]
                simp only [List.map_append, List.map_cons, List.map_nil, Array.toList_push]
                exact ⟨(h3.mono hmono).app (.cons (hmono _ _ hx1) .nil), (h4.mono hmono).app (.cons (hmono _ _ hv1) .nil)⟩
            | some j =>
              obtain ⟨en, h11, rfl, h12, h13⟩ := h8
              simp only at h6
              have hj : j < ents.size := by simpa using (List.getElem?_eq_some_iff.1 h11).1
              have hent : ents[j]? = some en := by simpa using h11
              refine fin (ents.modify j fun e => { e with key := a.eval k', val := a.eval x }) clock ?_ fun C2 hmono => ?_
              · have hst : (Instr.keyThatStays (a.eval k') (a.eval k')).run P C.w = .ok (a.eval k') C.w := by
                  rw [h12] at h13
                  simp [Instr.keyThatStays, h13]
                simp [Instr.mapUpdate, run_underlying hu, h1, MapKept.run_getObj_map h2', h10, h7', hent, h12, hst, MapKept.run_setObj_map _ h2']
              · rw [h6]
                have e1 : (ents.modify j fun e => { e with key := a.eval k', val := a.eval x }).toList.map (·.key) = (ents.toList.map (·.key)).set j (a.eval k') := by
                  apply List.ext_getElem?
                  intro i
                  simp only [Array.toList_modify, List.getElem?_map, List.getElem?_modify, List.getElem?_set, List.length_map, Array.length_toList]
                  by_cases hij : j = i
                  · subst hij; simp [hj]
                  · simp [hij]
                have e2 : (ents.modify j fun e => { e with key := a.eval k', val := a.eval x }).toList.map (·.val) = (ents.toList.map (·.val)).set j (a.eval x) := by
                  apply List.ext_getElem?
                  intro i
                  simp only [Array.toList_modify, List.getElem?_map, List.getElem?_modify, List.getElem?_set, List.length_map, Array.length_toList]
                  by_cases hij : j = i
                  · subst hij; simp [hj]
                  · simp [hij]
                have set1 : ∀ {as : List AV} {vs : List Value} {y : AV} {v : Value}, RepL C2 as vs → Rep C2 y v → RepL C2 (as.set j y) (vs.set j v) := by
                  intro as vs y v hr hy
                  refine ⟨by simp [hr.1], fun i av v' e e' => ?_⟩
                  rw [List.getElem?_set] at e e'
                  by_cases hij : j = i
                  · subst hij
                    rw [if_pos rfl] at e e'
                    split at e
                    · split at e'
                      · injection e with e; injection e' with e'; subst e; subst e'; exact hy
                      · cases e'
                    · cases e
                  · rw [if_neg hij] at e e'
                    exact hr.2 i _ _ e e'
                rw [e1, e2, List.map_set, List.map_set]
                exact ⟨set1 (h3.mono hmono) (hmono _ _ hx1), set1 (h4.mono hmono) (hmono _ _ hv1)⟩
          · cases h
        · cases h
      · cases h
    · cases h
  simp only [chkIns] at hc
  split at hc
  · rename_i t m' k' x eo
    simp only [Bool.and_eq_true] at hc
    obtain ⟨⟨⟨c1, c2⟩, c3⟩, c4⟩ := hc
    split at c4
    · rename_i kt e hu
      exact main t m' k' x kt e (by simp [execOp, eo]) c1 c2 c3 hu c4
    · cases c4
  · rename_i t m' k' x eo
    simp only [Bool.and_eq_true] at hc
    obtain ⟨⟨⟨c1, c2⟩, c3⟩, c4⟩ := hc
    split at c4
    · rename_i kt e hu
      exact main t m' k' x kt e (by simp [execOp, eo]) c1 c2 c3 hu c4
    · cases c4
  · cases hc
end
end Go.Proofs.Abs
