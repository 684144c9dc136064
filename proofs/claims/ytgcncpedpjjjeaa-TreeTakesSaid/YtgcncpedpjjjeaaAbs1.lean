/- A part of a proof: the text that states the row tells what is proved. No condition is laid on anything. -/
import Derived.Tactics
set_option linter.all false
set_option linter.constructorNameAsVariable false
set_option linter.defProp false
set_option linter.unusedVariables false
set_option linter.unusedSimpArgs false
namespace Go.Proofs.Abs

/-- An abstract object's name: the path of events that made it. -/
abbrev Id := List Nat

/-- Abstract values. 'list': a slice whose elements are never written again, told by its contents; 'emp': a slice without elements that is not nil; 'own': a slice over the whole of an object of the abstract heap; 'rp': a pointer to cells that are never written again; 'ref': a pointer to a cell of an object. -/
inductive AV where
  | undef
  | bool (b : Bool)
  | int (k : IntKind) (n : Int)
  | str (s : ByteArray)
  | nils
  | list (sz : Nat) (rows : List (List AV))
  | own (id : Id) (n : Nat)
  | emp
  | agg (cs : List AV)
  | tuple (vs : List AV)
  | nilp
  | rp (cs : List AV)
  | ref (id : Id) (n i j : Nat)
  | nilm
  | map (id : Id)
  | nilf
  | func (f : Nat) (caps : List AV)
  | nili
  | iface (t : Nat) (v : AV)
  deriving Inhabited

/-- Abstract objects: an array behind slices (may its elements be written; are all its cells free of 'own'; its element type, the cells of one, the elements), a variable, a map. -/
inductive AObj where
  | row (wr flat : Bool) (elem sz : Nat) (rows : List (List AV))
  | box (cells : List AV)
  | map (es : List (AV × AV))
  deriving Inhabited

abbrev Fr := List (Id × AObj)
abbrev Heap := List Fr

def fget : Fr → Id → Option AObj
  | [], _ => none
  | (i, o) :: r, id => if i = id then some o else fget r id

def hget : Heap → Id → Option AObj
  | [], _ => none
  | f :: r, id => match fget f id with
    | some o => some o
    | none => hget r id

def fset : Fr → Id → AObj → Fr
  | [], _, _ => []
  | (i, o) :: r, id, x => if i = id then (i, x) :: r else (i, o) :: fset r id x

def hset : Heap → Id → AObj → Heap
  | [], _, _ => []
  | f :: r, id, x => match fget f id with
    | some _ => fset f id x :: r
    | none => f :: hset r id x

def hadd : Heap → Id → AObj → Heap
  | [], id, x => [[(id, x)]]
  | f :: r, id, x => ((id, x) :: f) :: r

/-- The top frame's objects handed down to the one below. -/
def hmerge : Heap → Heap
  | f :: g :: r => (f ++ g) :: r
  | h => h

def hpop : Heap → Heap
  | _ :: r => r
  | [] => []

abbrev Env := List (Nat × AV)

def eget : Env → Nat → AV
  | [], _ => .undef
  | (i, v) :: r, j => if i = j then v else eget r j

def eset : Env → Nat → AV → Env
  | [], j, x => [(j, x)]
  | (i, v) :: r, j, x => if i = j then (i, x) :: r else (i, v) :: eset r j x

def edrop (e : Env) (l : List Nat) : Env := e.filter fun p => !l.contains p.1
/-- Only the slots that an elder environment had. -/
def ekeep (e : Env) (l : List Nat) : Env := e.filter fun p => l.contains p.1

structure St where
  env : Env
  heap : Heap
  p : Id
  k : Nat

inductive AX where
  | t (i : Nat)
  | k (v : AV)
  deriving Inhabited

def AX.ev (e : Env) : AX → AV
  | .t i => eget e i
  | .k v => v

inductive AIns where
  | mov (x : AX)
  | anil (elem sz : Nat)
  | pick (c a b : AX)
  | new (zero : List AV)
  | box (x : AX)
  | agg (zero : List AV) (parts : List (Nat × Nat × AX))
  | mkl (elem sz : Nat) (zero : List AV) (n : Nat) (parts : List (Nat × AX)) (raw : Bool)
  | load (agg : Bool) (m : Nat) (p : AX)
  | store (raw : Bool) (m : Nat) (p x : AX)
  | nilck (x : AX)
  | bin (op : BinOp) (ty : Nat) (x y : AX)
  | bins (op : BinOp) (ks : List Nat) (x y : AX)
  | un (op : UnOp) (x : AX)
  | conv (k : IntKind) (x : AX)
  | faddr (off : Nat) (x : AX)
  | fld (agg : Bool) (off m : Nat) (x : AX)
  | iaddr (sz : Nat) (x i : AX)
  | sidx (x i : AX)
  | slc (sz : Nat) (x : AX) (lo hi mx : Option AX)
  | zap (elem sz : Nat) (x : AX)
  | isnil (neg : Bool) (x : AX)
  | sslc (x : AX) (lo hi : Option AX)
  | ext (x : AX) (i : Nat)
  | mks (elem sz bytes : Nat) (zero : List AV) (l : AX)
  | mkf (f : Nat) (caps : List AX)
  | mkm
  | look (kd : Nat) (ks : List Nat) (zero : AV) (ok : Bool) (m k : AX)
  | mset (kd : Nat) (ks : List Nat) (m k v : AX)
  | len (ty : Nat) (x : AX)
  | app (elem sz bytes : Nat) (x y : AX)
  | mm (max : Bool) (xs : List AX)
  | call (f : Nat) (args : List (Bool × AX))
  | callv (x : AX) (args : List (Bool × AX))
  deriving Inhabited

/-- An operation: where its value goes, its guard, and (where a region draws its order) which operations stand ahead of it in every order. -/
structure AIn where
  d : Option Nat
  g : Option (Nat × Bool)
  i : AIns
  pre : List Nat := []
  deriving Inhabited

inductive ACode where
  | skip
  | reg (is : List AIn) (drop : List Nat)
  | dreg (is : List AIn) (drop : List Nat)
  | seq (a b : ACode)
  | cond (c : AX) (drop : List Nat) (a b : ACode)
  | block (id : Nat) (c : ACode)
  /-- mg: the objects of a round are kept behind it. -/
  | loop (mg : Bool) (c : ACode)
  | exit (id : Nat)
  | ret
  deriving Inhabited

inductive AExit where
  | normal
  | exit (id : Nat)
  | ret
  deriving Inhabited, DecidableEq

inductive RV where
  | t (i : Nat)
  | c (i : Nat) (agg : Bool) (m : Nat)
  deriving Inhabited

structure AFn where
  np : Nat
  nt : Nat
  body : ACode
  res : List RV
  /-- What of its own a call hands back: 0: nothing (the results are told by their contents), 1: the one slice that is its result, 2: all. -/
  keep : Nat
  deriving Inhabited

/-! ### Operations -/
def cellsOf : AV → Option (List AV)
  | .agg cs => some cs
  | .undef => none
  | .tuple _ => none
  | v => some [v]

def isCell : AV → Bool
  | .agg _ | .undef | .tuple _ => false
  | _ => true

def ofCells (agg : Bool) (cs : List AV) : Option AV :=
  if agg then some (.agg cs) else match cs with
    | [v] => some v
    | _ => none

/-- A value as it may be kept for good: a slice of one's own becomes its contents, and these are never written again. -/
def fzd : Nat → Heap → AV → Option (AV × Heap)
  | 0, _, _ => none
  | d + 1, H, v =>
    match v with
    | .own id n =>
      match hget H id with
      | some (.row _ true e sz rows) => if rows.length = n then some (.list sz rows, hset H id (.row false true e sz rows)) else none
      | some (.row _ false e sz rows) =>
        if rows.length = n then
          match fzrows (fzd d) (hset H id (.row false false e sz rows)) rows with
          | some (rows', H') => some (.list sz rows', H')
          | none => none
        else none
      | _ => none
    | .agg cs => match fzcells (fzd d) H cs with
      | some (cs', H') => some (.agg cs', H')
      | none => none
    | .tuple cs => match fzcells (fzd d) H cs with
      | some (cs', H') => some (.tuple cs', H')
      | none => none
    | v => some (v, H)
where
  fzcells (f : Heap → AV → Option (AV × Heap)) : Heap → List AV → Option (List AV × Heap)
    | H, [] => some ([], H)
    | H, c :: cs => match f H c with
      | some (c', H1) => match fzcells f H1 cs with
        | some (cs', H2) => some (c' :: cs', H2)
        | none => none
      | none => none
  fzrows (f : Heap → AV → Option (AV × Heap)) : Heap → List (List AV) → Option (List (List AV) × Heap)
    | H, [] => some ([], H)
    | H, c :: cs => match fzcells f H c with
      | some (c', H1) => match fzrows f H1 cs with
        | some (cs', H2) => some (c' :: cs', H2)
        | none => none
      | none => none

abbrev fz (H : Heap) (v : AV) : Option (AV × Heap) := fzd 4 H v

def aint (op : BinOp) (k : IntKind) (a b : Int) : Option AV :=
  match op with
  | .add => some (.int k (k.wrap (a + b)))
  | .sub => some (.int k (k.wrap (a - b)))
  | .mul => some (.int k (k.wrap (a * b)))
  | .quo => if b = 0 then none else some (.int k (k.wrap (a.tdiv b)))
  | .rem => if b = 0 then none else some (.int k (a.tmod b))
  | .eql => some (.bool (a == b))
  | .neq => some (.bool (a != b))
  | .lss => some (.bool (decide (a < b)))
  | .leq => some (.bool (decide (a ≤ b)))
  | .gtr => some (.bool (decide (a > b)))
  | .geq => some (.bool (decide (a ≥ b)))
  | _ => none

def ashift (op : BinOp) (k : IntKind) (a b : Int) : Option AV :=
  if b < 0 then none else
  match op with
  | .shl => some (.int k (k.wrap (a * 2 ^ (min b.toNat k.bits))))
  | .shr => some (.int k (a.fdiv (2 ^ (min b.toNat k.bits))))
  | _ => none

def astr (op : BinOp) (a b : ByteArray) : Option AV :=
  match op with
  | .add => if ((a.size + b.size : Nat) : Int) > IntKind.i64.max then none else some (.str (a ++ b))
  | .eql => some (.bool (a.toList == b.toList))
  | .neq => some (.bool (!(a.toList == b.toList)))
  | _ => none

/-- '==' of cells of one struct: of numbers (0), bools (1) and strings (2). -/
def acells : List Nat → List AV → List AV → Option Bool
  | [], [], [] => some true
  | 0 :: ks, .int k a :: r, .int k' b :: r' => if k = k' then (if a == b then acells ks r r' else some false) else none
  | 1 :: ks, .bool a :: r, .bool b :: r' => if a == b then acells ks r r' else some false
  | 2 :: ks, .str a :: r, .str b :: r' => if a == b then acells ks r r' else some false
  | _, _, _ => none

/-- ty: 0 numbers and strings, 1 bools. -/
def abin (op : BinOp) (ty : Nat) (x y : AV) : Option AV :=
  match ty, x, y with
  | 0, .int k a, .int k' b =>
    match op with
    | .shl | .shr => ashift op k a b
    | _ => if k = k' then aint op k a b else none
  | 0, .str a, .str b => astr op a b
  | 1, .bool a, .bool b =>
    match op with
    | .eql => some (.bool (a == b))
    | .neq => some (.bool (!(a == b)))
    | _ => none
  | _, _, _ => none

/-- Structs. -/
def abins (op : BinOp) (ks : List Nat) (x y : AV) : Option AV :=
  match x, y with
  | .agg a, .agg b =>
    match op with
    | .eql => (acells ks a b).map .bool
    | .neq => (acells ks a b).map fun r => .bool (!r)
    | _ => none
  | _, _ => none

def aun (op : UnOp) (x : AV) : Option AV :=
  match op, x with
  | .not, .bool b => some (.bool (!b))
  | .neg, .int k n => some (.int k (k.wrap (0 - n)))
  | _, _ => none

/-- Parts laid over zero cells. -/
def afill : List AV → List (Nat × Nat × List AV) → Option (List AV)
  | cells, [] => some cells
  | cells, (off, size, v) :: rest =>
    if v.length = size ∧ off + size ≤ cells.length then afill (cells.take off ++ v ++ cells.drop (off + size)) rest else none

def asize : AObj → Nat
  | .row _ _ _ _ rows => rows.length
  | .box _ => 1
  | .map _ => 0

/-- kd: 0 numbers, 1 bools, 2 strings, 3 structs and arrays. -/
def keyEq (kd : Nat) (ks : List Nat) (x y : AV) : Option Bool :=
  match kd, x, y with
  | 0, .int k a, .int k' b => if k = k' then some (a == b) else none
  | 1, .bool a, .bool b => some (a == b)
  | 2, .str a, .str b => some (a == b)
  | 3, .agg a, .agg b => acells ks a b
  | _, _, _ => none

def mfind (kd : Nat) (ks : List Nat) : List (AV × AV) → AV → Option (Option AV)
  | [], k => match keyEq kd ks k k with
    | some _ => some none
    | none => none
  | (k', v) :: r, k => match keyEq kd ks k k' with
    | some true => some (some v)
    | some false => mfind kd ks r k
    | none => none

def mput (kd : Nat) (ks : List Nat) : List (AV × AV) → AV → AV → Option (List (AV × AV))
  | [], k, v => match keyEq kd ks k k with
    | some _ => some [(k, v)]
    | none => none
  | (k', v') :: r, k, v => match keyEq kd ks k k' with
    | some true => some ((k, v) :: r)
    | some false => (mput kd ks r k v).map fun r' => (k', v') :: r'
    | none => none

def bnd (e : Env) (x : Option AX) (dflt : Nat) : Option Nat :=
  match x with
  | none => some dflt
  | some a => match a.ev e with
    | .int _ n => if 0 ≤ n then some n.toNat else none
    | _ => none

def agetl (l : List AX) (e : Env) : List AV := l.map (·.ev e)

def foldMin (mx : Bool) : IntKind → Int → List AV → Option AV
  | k, a, [] => some (.int k a)
  | k, a, .int k' b :: r => if k = k' then foldMin mx k (if mx then (if a < b then b else a) else (if b < a then b else a)) r else none
  | _, _, _ => none

def St.fresh (s : St) : Id := s.p ++ [s.k]
def St.add (s : St) (o : AObj) : St := { s with heap := hadd s.heap (s.p ++ [s.k]) o, k := s.k + 1 }

/-- The elements of a slice that is read. -/
def rowsOf (H : Heap) (v : AV) (sz : Nat) : Option (List (List AV)) :=
  match v with
  | .list sz' rows => if sz' = sz then some rows else none
  | .nils => some []
  | .emp => some []
  | .own id n => match hget H id with
    | some (.row _ _ _ sz' rows) => if sz' = sz ∧ rows.length = n then some rows else none
    | _ => none
  | _ => none

def partsOf (e : Env) (H : Heap) (raw : Bool) : List (Nat × AX) → Option (List (Nat × List AV) × Heap)
  | [] => some ([], H)
  | (i, x) :: r =>
    match (if raw then some (x.ev e, H) else fz H (x.ev e)) with
    | some (v, H1) =>
      match cellsOf v, partsOf e H1 raw r with
      | some cs, some (l, H2) => some ((i, cs) :: l, H2)
      | _, _ => none
    | none => none

def partsOfA (e : Env) : List (Nat × Nat × AX) → Option (List (Nat × Nat × List AV))
  | [] => some []
  | (off, sz, x) :: r =>
    match cellsOf (x.ev e), partsOfA e r with
    | some cs, some l => some ((off, sz, cs) :: l)
    | _, _ => none

def setRows : List (List AV) → List (Nat × List AV) → Option (List (List AV))
  | rows, [] => some rows
  | rows, (i, cs) :: r => match rows[i]? with
    | some old => if old.length = cs.length then setRows (rows.set i cs) r else none
    | none => none

def loadObj (o : AObj) (n i j m : Nat) : Option (List AV) :=
  match o with
  | .row _ _ _ _ rows => if rows.length = n then (rows[i]?).map fun r => (r.drop j).take m else none
  | .box cs => if n = 1 ∧ i = 0 then some ((cs.drop j).take m) else none
  | .map _ => none

def ains (ins : AIns) (s : St) : Option (AV × St) :=
  let e := s.env
  match ins with
  | .mov x => some (x.ev e, s)
  | .anil elem sz => some (.own (s.p ++ [s.k]) 0, s.add (.row true true elem sz []))
  | .pick c a b => match c.ev e with
    | .bool t => some (if t then a.ev e else b.ev e, s)
    | _ => none
  | .new zero => some (.ref (s.p ++ [s.k]) 1 0 0, s.add (.box zero))
  | .box x => match cellsOf (x.ev e) with
    | some cs => some (.ref (s.p ++ [s.k]) 1 0 0, s.add (.box cs))
    | none => none
  | .agg zero parts => match partsOfA e parts with
    | some l => (afill zero l).map fun cs => (.agg cs, s)
    | none => none
  | .mkl elem sz zero n parts raw => match partsOf e s.heap raw parts with
    | some (l, H) => match setRows (List.replicate n zero) l with
      | some rows => some (.own (s.p ++ [s.k]) n, St.add { s with heap := H } (.row true (!raw) elem sz rows))
      | none => none
    | none => none
  | .load agg m p => match p.ev e with
    | .rp cs => if m ≤ cs.length then (ofCells agg (cs.take m)).map fun v => (v, s) else none
    | .ref id n i j => match hget s.heap id with
      | some o => match loadObj o n i j m with
        | some cs => if cs.length = m then (ofCells agg cs).map fun v => (v, s) else none
        | none => none
      | none => none
    | _ => none
  | .store raw m p x => match p.ev e with
    | .ref id n i j => match hget s.heap id with
      | some (.row true flat el sz rows) =>
        match (if raw then some (x.ev e, s.heap) else fz s.heap (x.ev e)) with
        | some (v, H) => match cellsOf v, rows[i]?, hget H id with
          | some cs, some old, some (.row true _ _ _ _) => if rows.length = n ∧ cs.length = m ∧ j + m ≤ old.length then
              some (.undef, { s with heap := hset H id (.row true (flat && !raw) el sz (rows.set i (old.take j ++ cs ++ old.drop (j + m)))) }) else none
          | _, _, _ => none
        | none => none
      | some (.box cells) => match cellsOf (x.ev e) with
        | some cs => if n = 1 ∧ i = 0 ∧ cs.length = m ∧ j + m ≤ cells.length then
            some (.undef, { s with heap := hset s.heap id (.box (cells.take j ++ cs ++ cells.drop (j + m))) }) else none
        | none => none
      | _ => none
    | _ => none
  | .nilck x => match x.ev e with
    | .rp cs => some (.rp cs, s)
    | .ref id n i j => some (.ref id n i j, s)
    | .func f caps => some (.func f caps, s)
    | _ => none
  | .bin op ty x y => (abin op ty (x.ev e) (y.ev e)).map fun v => (v, s)
  | .bins op ks x y => (abins op ks (x.ev e) (y.ev e)).map fun v => (v, s)
  | .un op x => (aun op (x.ev e)).map fun v => (v, s)
  | .conv k x => match x.ev e with
    | .int _ n => some (.int k (k.wrap n), s)
    | _ => none
  | .faddr off x => match x.ev e with
    | .rp cs => some (.rp (cs.drop off), s)
    | .ref id n i j => some (.ref id n i (j + off), s)
    | _ => none
  | .fld agg off m x => match x.ev e with
    | .agg cs => if off + m ≤ cs.length then (ofCells agg ((cs.drop off).take m)).map fun v => (v, s) else none
    | _ => none
  | .iaddr sz x i => match x.ev e, i.ev e with
    | .list sz' rows, .int _ n => if sz' = sz ∧ 0 ≤ n then (rows[n.toNat]?).map fun r => (.rp r, s) else none
    | .own id len, .int _ n => match hget s.heap id with
      | some (.row _ _ _ sz' rows) => if sz' = sz ∧ rows.length = len ∧ 0 ≤ n ∧ n < len then some (.ref id len n.toNat 0, s) else none
      | _ => none
    | _, _ => none
  | .sidx x i => match x.ev e, i.ev e with
    | .str b, .int _ n => if 0 ≤ n then (b[n.toNat]?).map fun c => (.int .u8 c.toNat, s) else none
    | _, _ => none
  | .isnil neg x => match x.ev e with
    | .nils => some (.bool (!neg), s)
    | .emp => some (.bool neg, s)
    | .list _ (_ :: _) => some (.bool neg, s)
    | .own id n => match hget s.heap id with
      | some (.row _ _ _ _ rows) => if rows.length = n ∧ 0 < n then some (.bool neg, s) else none
      | _ => none
    | _ => none
  | .sslc x lo hi => match x.ev e with
    | .str b => match bnd e hi b.size with
      | some h => match bnd e lo 0 with
        | some l => if l ≤ h ∧ h ≤ b.size then some (.str (b.extract l h), s) else none
        | none => none
      | none => none
    | _ => none
  | .zap elem sz x => match rowsOf s.heap (x.ev e) sz with
    | some _ => some (.own (s.p ++ [s.k]) 0, s.add (.row true true elem sz []))
    | none => none
  | .slc sz x lo hi mx => match x.ev e with
    | v => match rowsOf s.heap v sz with
      | some rows => match bnd e hi rows.length with
        | some h => match bnd e lo 0 with
          | some l => match bnd e mx rows.length with
            | some m =>
              if l ≤ h ∧ h ≤ m ∧ m ≤ rows.length then
                match v with
                | .own id n => if l = 0 ∧ h = n ∧ mx.isNone then some (v, s) else
                  match fz s.heap v with
                  | some (.list _ rows', H) => some (.list sz ((rows'.take h).drop l), { s with heap := H })
                  | _ => none
                | _ => some (.list sz ((rows.take h).drop l), s)
              else none
            | none => none
          | none => none
        | none => none
      | none => none
  | .ext x i => match x.ev e with
    | .tuple vs => (vs[i]?).map fun v => (v, s)
    | _ => none
  | .mks elem sz bytes zero l => match l.ev e with
    | .int .i64 n => if 0 ≤ n ∧ n * bytes ≤ 140737488355328 then
        some (.own (s.p ++ [s.k]) n.toNat, s.add (.row true true elem sz (List.replicate n.toNat zero))) else none
    | _ => none
  | .mkf f caps => some (.func f (agetl caps e), s)
  | .mkm => some (.map (s.p ++ [s.k]), s.add (.map []))
  | .look kd ks zero ok m k => match m.ev e with
    | .map id => match hget s.heap id with
      | some (.map es) => match mfind kd ks es (k.ev e) with
        | some (some v) => some (if ok then .tuple [v, .bool true] else v, s)
        | some none => some (if ok then .tuple [zero, .bool false] else zero, s)
        | none => none
      | _ => none
    | _ => none
  | .mset kd ks m k v => match m.ev e with
    | .map id => match fz s.heap (v.ev e) with
      | some (x, H) => match hget H id with
        | some (.map es) => match mput kd ks es (k.ev e) x with
          | some es' => some (.undef, { s with heap := hset H id (.map es') })
          | none => none
        | _ => none
      | none => none
    | _ => none
  | .len ty x => match ty, x.ev e with
    | 0, .str b => some (.int .i64 b.size, s)
    | 1, .list _ rows => some (.int .i64 rows.length, s)
    | 1, .nils => some (.int .i64 0, s)
    | 1, .emp => some (.int .i64 0, s)
    | 1, .own id n => match hget s.heap id with
      | some (.row _ _ _ _ rows) => if rows.length = n then some (.int .i64 n, s) else none
      | _ => none
    | 2, .map id => match hget s.heap id with
      | some (.map es) => some (.int .i64 es.length, s)
      | _ => none
    | _, _ => none
  | .app elem sz bytes x y => match rowsOf s.heap (y.ev e) sz with
    | some new => match x.ev e with
      | .own id n => match hget s.heap id with
        | some (.row wr flat el sz' rows) =>
          if el = elem ∧ sz' = sz ∧ rows.length = n ∧ (n + new.length) * bytes ≤ 140737488355328 then
            let fl := match y.ev e with
              | .own id2 _ => match hget s.heap id2 with
                | some (.row _ fl _ _ _) => fl
                | _ => false
              | _ => true
            some (.own id (n + new.length), { s with heap := hset s.heap id (.row wr (flat && fl) el sz' (rows ++ new)) })
          else none
        | _ => none
      | _ => none
    | none => none
  | .mm mx xs => match agetl xs e with
    | .int k a :: r => (foldMin mx k a r).map fun v => (v, s)
    | _ => none
  | .call _ _ => none
  | .callv _ _ => none

def argsOf (e : Env) : Heap → List (Bool × AX) → Option (List AV × Heap)
  | H, [] => some ([], H)
  | H, (byv, x) :: r =>
    match (if byv then fz H (x.ev e) else some (x.ev e, H)) with
    | some (v, H1) => match argsOf e H1 r with
      | some (l, H2) => some (v :: l, H2)
      | none => none
    | none => none

def putd (e : Env) (d : Option Nat) (v : AV) : Env :=
  match d with
  | some i => eset e i v
  | none => e

def wanted (e : Env) (g : Option (Nat × Bool)) : Option Bool :=
  match g with
  | none => some true
  | some (i, want) => match eget e i with
    | .bool b => some (b == want)
    | .tuple [] => some false
    | _ => none

/-- A call's function: its number, and 100000 times the way in which it is taken here (what it hands back). -/
abbrev CallF := Nat → Id → List AV → Heap → Option (AV × Heap)

def acallIns (call : CallF) (s : St) (f : Nat) (pre : List AV) (args : List (Bool × AX)) : Option (AV × St) :=
  match argsOf s.env s.heap args with
  | some (l, H) => match call f (s.p ++ [s.k]) (l ++ pre) H with
    | some (r, H') => some (r, { s with heap := H', k := s.k + 1 })
    | none => none
  | none => none

def astep (call : CallF) (i : AIns) (s : St) : Option (AV × St) :=
  match i with
  | .call f args => acallIns call s f [] args
  | .callv x args => match x.ev s.env with
    | .func f caps => if f < 100000 then acallIns call s f caps args else none
    | _ => none
  | i => ains i s

/-- Operations in the text's order; each is an event of its own. -/
def aregion (call : CallF) : List AIn → Nat → St → Option St
  | [], k, s => some { s with k := k }
  | i :: r, k, s => match wanted s.env i.g with
    | some true => match astep call i.i { s with k := k } with
      | some (v, s') => aregion call r (k + 1) { s' with env := putd s'.env i.d v }
      | none => none
    | some false => aregion call r (k + 1) { s with env := putd s.env i.d (.tuple []) }
    | none => none

/-! ### Likeness, told by a Bool -/
mutual
def beqA : AV → AV → Bool
  | .undef, .undef => true
  | .bool a, .bool b => a == b
  | .int k a, .int k' b => decide (k = k') && a == b
  | .str a, .str b => decide (a = b)
  | .nils, .nils => true
  | .list sz r, .list sz' r' => sz == sz' && beqLL r r'
  | .own i n, .own i' n' => i == i' && n == n'
  | .emp, .emp => true
  | .agg a, .agg b => beqL a b
  | .tuple a, .tuple b => beqL a b
  | .nilp, .nilp => true
  | .rp a, .rp b => beqL a b
  | .ref i n j k, .ref i' n' j' k' => i == i' && n == n' && j == j' && k == k'
  | .nilm, .nilm => true
  | .map i, .map i' => i == i'
  | .nilf, .nilf => true
  | .func f c, .func f' c' => f == f' && beqL c c'
  | .nili, .nili => true
  | .iface t v, .iface t' v' => t == t' && beqA v v'
  | _, _ => false
def beqL : List AV → List AV → Bool
  | [], [] => true
  | a :: r, b :: r' => beqA a b && beqL r r'
  | _, _ => false
def beqLL : List (List AV) → List (List AV) → Bool
  | [], [] => true
  | a :: r, b :: r' => beqL a b && beqLL r r'
  | _, _ => false
end
def beqE : List (AV × AV) → List (AV × AV) → Bool
  | [], [] => true
  | (a, b) :: r, (a', b') :: r' => beqA a a' && beqA b b' && beqE r r'
  | _, _ => false
def beqO : AObj → AObj → Bool
  | .row w f e s r, .row w' f' e' s' r' => w == w' && f == f' && e == e' && s == s' && beqLL r r'
  | .box c, .box c' => beqL c c'
  | .map e, .map e' => beqE e e'
  | _, _ => false
def beqF : Fr → Fr → Bool
  | [], [] => true
  | (i, o) :: r, (i', o') :: r' => i == i' && beqO o o' && beqF r r'
  | _, _ => false
def beqH : Heap → Heap → Bool
  | [], [] => true
  | f :: r, f' :: r' => beqF f f' && beqH r r'
  | _, _ => false

/-! ### A region that draws its order -/
/-- What an operation does to the heap: nothing (l); it reads an object (r); it lays a variable (n); it reads whatever it likes (c); it writes (x). -/
inductive Cl where
  | l
  | r (id : Id)
  | n (o : AObj)
  | c
  | x

def clsOf (ins : AIns) (e : Env) : Cl :=
  match ins with
  | .mov _ | .pick .. | .agg .. | .nilck _ | .bin .. | .bins .. | .un .. | .conv .. | .faddr .. | .fld .. | .sidx .. | .sslc .. | .ext .. | .mkf .. | .mm .. => .l
  | .load _ _ p => match p.ev e with
    | .rp _ => .l
    | .ref id _ _ _ => .r id
    | _ => .x
  | .iaddr _ x _ => match x.ev e with
    | .list _ _ => .l
    | .own id _ => .r id
    | _ => .x
  | .len _ x => match x.ev e with
    | .str _ | .list _ _ | .nils | .emp => .l
    | .own id _ | .map id => .r id
    | _ => .x
  | .slc _ x _ _ _ => match x.ev e with
    | .list _ _ | .nils | .emp => .l
    | _ => .x
  | .isnil _ x => match x.ev e with
    | .list _ _ | .nils | .emp => .l
    | .own id _ => .r id
    | _ => .x
  | .new zero => .n (.box zero)
  | .box x => match cellsOf (x.ev e) with
    | some cs => .n (.box cs)
    | none => .x
  | .call _ _ | .callv _ _ => .c
  | _ => .x

def idk (id : Id) : Nat := id.getLast?.getD 0
/-- A new object's place among others: by the event that made it. -/
def fins : Fr → Id → AObj → Fr
  | [], id, o => [(id, o)]
  | (i, x) :: r, id, o => if idk id < idk i then (i, x) :: fins r id o else (id, o) :: (i, x) :: r
def hins : Heap → Id → AObj → Heap
  | [], id, o => [[(id, o)]]
  | f :: r, id, o => fins f id o :: r

/-- An operation done: what it did, which operations stand ahead of it in every order, the name that a new object of its own has. -/
structure Rec where
  c : Cl
  pre : List Nat
  me : Id

/-- Must operation i (the first one) stand ahead of j in every order? -/
def needs (ri rj : Rec) : Bool :=
  match ri.c, rj.c with
  | .l, _ | _, .l => false
  | .r _, .r _ | .r _, .c | .c, .r _ | .n _, .n _ => false
  | .r id, .n _ => rj.me == id
  | .n _, .r id => ri.me == id
  | _, _ => true

def adstep (call : CallF) (i : AIn) (s : St) : Option (Cl × AV × St) :=
  match wanted s.env i.g with
  | some true => match astep call i.i s with
    | some (v, s') => match clsOf i.i s.env with
      | .n o => if (hget s.heap (s.p ++ [s.k])).isNone then some (.n o, v, { s with heap := hins s.heap (s.p ++ [s.k]) o }) else none
      | .c => if beqH s'.heap s.heap then some (.c, v, { s with heap := s.heap }) else some (.x, v, s')
      | c => some (c, v, s')
    | none => none
  | some false => some (.l, .tuple [], s)
  | none => none

def adrun (call : CallF) : List AIn → Nat → St → Option (St × List Rec)
  | [], k, s => some ({ s with k := k }, [])
  | i :: r, k, s => match adstep call i { s with k := k } with
    | some (c, v, s') => match adrun call r (k + 1) { s' with env := putd s'.env i.d v } with
      | some (s2, l) => some (s2, ⟨c, i.pre, s.p ++ [k]⟩ :: l)
      | none => none
    | none => none

def apart1 (i : Nat) (ri : Rec) : List Rec → Bool
  | [] => true
  | rj :: l => (!needs ri rj || rj.pre.contains i) && apart1 i ri l
def apart : Nat → List Rec → Bool
  | _, [] => true
  | i, r :: l => apart1 i r l && apart (i + 1) l

def adreg (call : CallF) (is : List AIn) (s : St) : Option St :=
  match adrun call is s.k s with
  | some (s', l) => if apart 0 l then some s' else none
  | none => none

/-! ### What an operation looks at -/
def axr : AX → List Nat
  | .t i => [i]
  | .k _ => []
def optr : Option AX → List Nat
  | some x => axr x
  | none => []
def reads : AIns → List Nat
  | .mov x => axr x
  | .anil _ _ => []
  | .pick c a b => axr c ++ axr a ++ axr b
  | .new _ => []
  | .box x => axr x
  | .agg _ parts => parts.flatMap fun p => axr p.2.2
  | .mkl _ _ _ _ parts _ => parts.flatMap fun p => axr p.2
  | .load _ _ p => axr p
  | .store _ _ p x => axr p ++ axr x
  | .nilck x => axr x
  | .bin _ _ x y => axr x ++ axr y
  | .bins _ _ x y => axr x ++ axr y
  | .un _ x => axr x
  | .conv _ x => axr x
  | .faddr _ x => axr x
  | .fld _ _ _ x => axr x
  | .iaddr _ x i => axr x ++ axr i
  | .sidx x i => axr x ++ axr i
  | .zap _ _ x => axr x
  | .isnil _ x => axr x
  | .slc _ x lo hi mx => axr x ++ optr lo ++ optr hi ++ optr mx
  | .sslc x lo hi => axr x ++ optr lo ++ optr hi
  | .ext x _ => axr x
  | .mks _ _ _ _ l => axr l
  | .mkf _ caps => caps.flatMap axr
  | .mkm => []
  | .look _ _ _ _ m k => axr m ++ axr k
  | .mset _ _ m k v => axr m ++ axr k ++ axr v
  | .len _ x => axr x
  | .app _ _ _ x y => axr x ++ axr y
  | .mm _ xs => xs.flatMap axr
  | .call _ args => args.flatMap fun p => axr p.2
  | .callv x args => axr x ++ args.flatMap fun p => axr p.2
def readsG (i : AIn) : List Nat := (match i.g with | some (t, _) => [t] | none => []) ++ reads i.i

/-! ### Slots that meet -/
def clash (a b : AIn) : Bool :=
  (match a.d with | some d => (readsG b).contains d || b.d == some d | none => false) || (match b.d with | some d => (readsG a).contains d | none => false)
def slots1 (i : Nat) (a : AIn) : List AIn → Bool
  | [] => true
  | b :: r => (!clash a b || b.pre.contains i) && slots1 i a r
def slotsOK : Nat → List AIn → Bool
  | _, [] => true
  | i, a :: r => slots1 i a r && slotsOK (i + 1) r

def slots (e : Env) : List Nat := e.map (·.1)

def endr (mg : Bool) (H : Heap) : Heap := if mg then hmerge H else hpop H
/-- Rounds of a loop: round j's objects lie in a frame of their own, and are forgotten behind it. -/
def around (exec : ACode → St → Option (AExit × St)) (c : ACode) (q : Id) (sl : List Nat) (mg : Bool) : Nat → Nat → Env → Heap → Option (AExit × Env × Heap)
  | 0, _, _, _ => none
  | n + 1, j, e, H =>
    match exec c { env := e, heap := [] :: H, p := q ++ [j], k := 0 } with
    | some (.normal, s') => around exec c q sl mg n (j + 1) (ekeep s'.env sl) (endr mg s'.heap)
    | some (x, s') => some (x, s'.env, hmerge s'.heap)
    | none => none

def resOf (e : Env) (H : Heap) : List RV → Option (List AV)
  | [] => some []
  | .t i :: r => match resOf e H r with
    | some l => some (eget e i :: l)
    | none => none
  | .c i agg m :: r => match eget e i with
    | .ref id n ix j => match hget H id with
      | some o => match loadObj o n ix j m with
        | some cs => if cs.length = m then
            match ofCells agg cs, resOf e H r with
            | some v, some l => some (v :: l)
            | _, _ => none
          else none
        | none => none
      | none => none
    | _ => none

def one : List AV → AV
  | [v] => v
  | l => .tuple l

def params : Nat → List AV → Env
  | _, [] => []
  | i, v :: r => (i, v) :: params (i + 1) r

def abody (exec : ACode → St → Option (AExit × St)) (fn : AFn) (q : Id) (args : List AV) (H : Heap) : Option (AV × Heap) :=
  if args.length = fn.np then
    match exec fn.body { env := params 0 args, heap := [] :: H, p := q, k := 0 } with
    | some (.normal, s) | some (.ret, s) =>
      match resOf s.env s.heap fn.res with
      | some l =>
        if fn.keep = 0 then
          match fz s.heap (one l) with
          | some (v, H') => some (v, hpop H')
          | none => none
        else if fn.keep = 1 then
          match one l with
          | .own id n => match hget s.heap id with
            | some (.row wr flat e sz rows) => if rows.length = n then
                match hget (hpop s.heap) id with
                | some _ => some (.own id n, hpop s.heap)
                | none => some (.own id n, hadd (hpop s.heap) id (.row wr flat e sz rows))
              else none
            | _ => none
          | _ => none
        else some (one l, hmerge s.heap)
      | none => none
    | _ => none
  else none

/-- 'fork': a function that may ask whether its first argument is nil: where that is not known, both answers must lead to the same. -/
inductive AFun where
  | code (fn : AFn)
  | fork (fn : AFn)
  | ora (spec : Id → List AV → Heap → Option (AV × Heap))

abbrev FT := Nat → Option AFun

mutual
def aexec (ft : FT) : Nat → ACode → St → Option (AExit × St)
  | 0, _, _ => none
  | n + 1, c, s =>
    match c with
    | .skip => some (.normal, s)
    | .reg is drop => match aregion (acall ft n) is s.k s with
      | some s' => some (.normal, { s' with env := edrop s'.env drop })
      | none => none
    | .dreg is drop => match adreg (acall ft n) is s with
      | some s' => some (.normal, { s' with env := edrop s'.env drop })
      | none => none
    | .seq a b => match aexec ft n a s with
      | some (.normal, s') => aexec ft n b s'
      | r => r
    | .cond c drop a b => match c.ev s.env with
      | .bool t => aexec ft n (if t then a else b) { s with env := edrop s.env drop }
      | _ => none
    | .block id c => match aexec ft n c s with
      | some (.exit id', s') => if id' = id then some (.normal, { s' with env := ekeep s'.env (slots s.env) }) else some (.exit id', s')
      | r => r
    | .loop mg c => match around (aexec ft n) c (s.p ++ [s.k]) (slots s.env) mg n 0 s.env s.heap with
      | some (x, e, H) => some (x, { env := e, heap := H, p := s.p, k := s.k + 1 })
      | none => none
    | .exit id => some (.exit id, s)
    | .ret => some (.ret, s)
def acall (ft : FT) : Nat → CallF
  | 0, _, _, _, _ => none
  | n + 1, f, q, args, H =>
    match ft f with
    | some (.code fn) => abody (aexec ft n) fn q args H
    | some (.fork fn) => match args with
      | .list _ [] :: r => match abody (aexec ft n) fn q (.nils :: r) H, abody (aexec ft n) fn q (.emp :: r) H with
        | some (v, H'), some (v2, H2) => if beqA v2 v && beqH H2 H' then some (v, H') else none
        | _, _ => none
      | _ => abody (aexec ft n) fn q args H
    | some (.ora spec) => spec q args H
    | none => none
end

end Go.Proofs.Abs
