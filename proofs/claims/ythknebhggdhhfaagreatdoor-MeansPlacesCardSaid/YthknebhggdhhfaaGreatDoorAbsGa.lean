/- A part of a proof: the text that states the row tells what is proved. No condition is laid on anything. -/
import Derived.Tactics
import Derived.Laws.AppendOwn
import Derived.Laws.OwnMore
import Derived.Laws.MakeOwn
import Derived.Laws.CopyRow
import Derived.Laws.Slices
import Derived.Laws.Append
import Derived.Laws.Tables
import Derived.Laws.Cells
import Derived.Laws.NewFold
import Derived.Great.BuildSlice
import Derived.Laws.Cover3
set_option linter.all false
set_option linter.constructorNameAsVariable false
set_option linter.defProp false
set_option linter.unusedVariables false
set_option linter.unusedSimpArgs false
namespace Go.Proofs.Abs

abbrev Id := List Nat

inductive AV where
  | undef
  | bool (b : Bool)
  | int (k : IntKind) (n : Int)
  | str (s : ByteArray)
  | nils
  | list (sz : Nat) (rows : List (List AV))
  | own (id : Id) (n : Nat)
  | emp
  | tl (id : Id) (n i : Nat)
  | agg (cs : List AV)
  | tuple (vs : List AV)
  | nilp
  | rp (cs : List AV)
  | ref (id : Id) (n i j : Nat)
  | nilm
  | map (id : Id)
  | nilf
  | func (f : Nat) (caps : List AV)
  | nili
  | iface (t : Nat) (v : AV)
  deriving Inhabited

inductive AObj where
  | row (wr flat : Bool) (elem sz : Nat) (rows : List (List AV))
  | box (cells : List AV)
  | map (es : List (AV × AV))
  deriving Inhabited

abbrev Fr := List (Id × AObj)
abbrev Heap := List Fr

def fget : Fr → Id → Option AObj
  | [], _ => none
  | (i, o) :: r, id => if i = id then some o else fget r id

def hget : Heap → Id → Option AObj
  | [], _ => none
  | f :: r, id => match fget f id with
    | some o => some o
    | none => hget r id

def fset : Fr → Id → AObj → Fr
  | [], _, _ => []
  | (i, o) :: r, id, x => if i = id then (i, x) :: r else (i, o) :: fset r id x

def hset : Heap → Id → AObj → Heap
  | [], _, _ => []
  | f :: r, id, x => match fget f id with
    | some _ => fset f id x :: r
    | none => f :: hset r id x

def hadd : Heap → Id → AObj → Heap
  | [], id, x => [[(id, x)]]
  | f :: r, id, x => ((id, x) :: f) :: r

def hmerge : Heap → Heap
  | f :: g :: r => (f ++ g) :: r
  | h => h

def hpop : Heap → Heap
  | _ :: r => r
  | [] => []

abbrev Env := List (Nat × AV)

def eget : Env → Nat → AV
  | [], _ => .undef
  | (i, v) :: r, j => if i = j then v else eget r j

def eset : Env → Nat → AV → Env
  | [], j, x => [(j, x)]
  | (i, v) :: r, j, x => if i = j then (i, x) :: r else (i, v) :: eset r j x

def edrop (e : Env) (l : List Nat) : Env := e.filter fun p => !l.contains p.1
def ekeep (e : Env) (l : List Nat) : Env := e.filter fun p => l.contains p.1

structure St where
  env : Env
  heap : Heap
  p : Id
  k : Nat

inductive AX where
  | t (i : Nat)
  | k (v : AV)
  deriving Inhabited

def AX.ev (e : Env) : AX → AV
  | .t i => eget e i
  | .k v => v

inductive AIns where
  | mov (x : AX)
  | anil (elem sz : Nat)
  | pick (c a b : AX)
  | new (zero : List AV)
  | box (x : AX)
  | agg (zero : List AV) (parts : List (Nat × Nat × AX))
  | mkl (elem sz : Nat) (zero : List AV) (n : Nat) (parts : List (Nat × AX)) (raw : Bool)
  | load (agg : Bool) (m : Nat) (p : AX)
  | store (raw : Bool) (m : Nat) (p x : AX)
  | nilck (x : AX)
  | bin (op : BinOp) (ty : Nat) (x y : AX)
  | bins (op : BinOp) (ks : List Nat) (x y : AX)
  | un (op : UnOp) (x : AX)
  | conv (k : IntKind) (x : AX)
  | faddr (off : Nat) (x : AX)
  | fld (agg : Bool) (off m : Nat) (x : AX)
  | aidx (agg : Bool) (m len : Nat) (x i : AX)
  | iaddr (sz : Nat) (x i : AX)
  | sidx (x i : AX)
  | slc (sz : Nat) (x : AX) (lo hi mx : Option AX)
  | zap (elem sz : Nat) (x : AX)
  | tlz (sz : Nat) (x i : AX)
  | clr (elem sz : Nat) (zero : List AV) (x : AX)
  | isnil (neg : Bool) (x : AX)
  | sslc (x : AX) (lo hi : Option AX)
  | ext (x : AX) (i : Nat)
  | mks (elem sz bytes : Nat) (zero : List AV) (l : AX)
  | mkf (f : Nat) (caps : List AX)
  | mkm
  | look (kd : Nat) (ks : List Nat) (zero : AV) (ok : Bool) (m k : AX)
  | mset (kd : Nat) (ks : List Nat) (m k v : AX)
  | len (ty : Nat) (x : AX)
  | app (elem sz bytes : Nat) (x y : AX)
  | mm (max : Bool) (xs : List AX)
  | call (f : Nat) (args : List (Bool × AX))
  | callv (x : AX) (args : List (Bool × AX))
  | lst (elem sz : Nat) (zero : List AV) (n : Nat) (parts : List (Nat × AX))
  | storew (m : Nat) (p x : AX)
  | s2b (x : AX)
  | gsl (n : Nat) (x : AX)
  | pcall (f : Nat) (args : List AX)
  deriving Inhabited

structure AIn where
  d : Option Nat
  g : Option (Nat × Bool)
  i : AIns
  pre : List Nat := []
  deriving Inhabited

inductive ACode where
  | skip
  | reg (is : List AIn) (drop : List Nat)
  | dreg (is : List AIn) (drop : List Nat)
  | seq (a b : ACode)
  | cond (c : AX) (drop : List Nat) (a b : ACode)
  | block (id : Nat) (c : ACode)
  | loop (mg : Bool) (c : ACode)
  | exit (id : Nat)
  | ret
  | stuck
  deriving Inhabited

inductive AExit where
  | normal
  | exit (id : Nat)
  | ret
  deriving Inhabited, DecidableEq

inductive RV where
  | t (i : Nat)
  | c (i : Nat) (agg : Bool) (m : Nat)
  | cz (i : Nat) (m : Nat) (zs : List Nat)
  deriving Inhabited

structure AFn where
  np : Nat
  nt : Nat
  body : ACode
  res : List RV
  keep : Nat
  deriving Inhabited

def cellsOf : AV → Option (List AV)
  | .agg cs => some cs
  | .undef => none
  | .tuple _ => none
  | .tl _ _ _ => none
  | v => some [v]

def isCell : AV → Bool
  | .agg _ | .undef | .tuple _ | .tl _ _ _ => false
  | _ => true

def ofCells (agg : Bool) (cs : List AV) : Option AV :=
  if agg then some (.agg cs) else match cs with
    | [v] => some v
    | _ => none

def fzd : Nat → Heap → AV → Option (AV × Heap)
  | 0, _, _ => none
  | d + 1, H, v =>
    match v with
    | .own id n =>
      match hget H id with
      | some (.row _ true e sz rows) => if rows.length = n then some (.list sz rows, hset H id (.row false true e sz rows)) else none
      | some (.row _ false e sz rows) =>
        if rows.length = n then
          match fzrows (fzd d) (hset H id (.row false false e sz rows)) rows with
          | some (rows', H') => some (.list sz rows', H')
          | none => none
        else none
      | _ => none
    | .agg cs => match fzcells (fzd d) H cs with
      | some (cs', H') => some (.agg cs', H')
      | none => none
    | .tuple cs => match fzcells (fzd d) H cs with
      | some (cs', H') => some (.tuple cs', H')
      | none => none
    | .tl _ _ _ => none
    | v => some (v, H)
where
  fzcells (f : Heap → AV → Option (AV × Heap)) : Heap → List AV → Option (List AV × Heap)
    | H, [] => some ([], H)
    | H, c :: cs => match f H c with
      | some (c', H1) => match fzcells f H1 cs with
        | some (cs', H2) => some (c' :: cs', H2)
        | none => none
      | none => none
  fzrows (f : Heap → AV → Option (AV × Heap)) : Heap → List (List AV) → Option (List (List AV) × Heap)
    | H, [] => some ([], H)
    | H, c :: cs => match fzcells f H c with
      | some (c', H1) => match fzrows f H1 cs with
        | some (cs', H2) => some (c' :: cs', H2)
        | none => none
      | none => none

abbrev fz (H : Heap) (v : AV) : Option (AV × Heap) := fzd 4 H v

def aint (op : BinOp) (k : IntKind) (a b : Int) : Option AV :=
  match op with
  | .add => some (.int k (k.wrap (a + b)))
  | .sub => some (.int k (k.wrap (a - b)))
  | .mul => some (.int k (k.wrap (a * b)))
  | .quo => if b = 0 then none else some (.int k (k.wrap (a.tdiv b)))
  | .rem => if b = 0 then none else some (.int k (a.tmod b))
  | .eql => some (.bool (a == b))
  | .neq => some (.bool (a != b))
  | .lss => some (.bool (decide (a < b)))
  | .leq => some (.bool (decide (a ≤ b)))
  | .gtr => some (.bool (decide (a > b)))
  | .geq => some (.bool (decide (a ≥ b)))
  | _ => none

def ashift (op : BinOp) (k : IntKind) (a b : Int) : Option AV :=
  if b < 0 then none else
  match op with
  | .shl => some (.int k (k.wrap (a * 2 ^ (min b.toNat k.bits))))
  | .shr => some (.int k (a.fdiv (2 ^ (min b.toNat k.bits))))
  | _ => none

def astr (op : BinOp) (a b : ByteArray) : Option AV :=
  match op with
  | .add => if ((a.size + b.size : Nat) : Int) > IntKind.i64.max then none else some (.str (a ++ b))
  | .eql => some (.bool (a.toList == b.toList))
  | .neq => some (.bool (!(a.toList == b.toList)))
  | _ => none

def acells : List Nat → List AV → List AV → Option Bool
  | [], [], [] => some true
  | 0 :: ks, .int k a :: r, .int k' b :: r' => if k = k' then (if a == b then acells ks r r' else some false) else none
  | 1 :: ks, .bool a :: r, .bool b :: r' => if a == b then acells ks r r' else some false
  | 2 :: ks, .str a :: r, .str b :: r' => if a == b then acells ks r r' else some false
  | _, _, _ => none

def abin (op : BinOp) (ty : Nat) (x y : AV) : Option AV :=
  match ty, x, y with
  | 0, .int k a, .int k' b =>
    match op with
    | .shl | .shr => ashift op k a b
    | _ => if k = k' then aint op k a b else none
  | 0, .str a, .str b => astr op a b
  | 1, .bool a, .bool b =>
    match op with
    | .eql => some (.bool (a == b))
    | .neq => some (.bool (!(a == b)))
    | _ => none
  | 2, .nili, .nili =>
    match op with
    | .eql => some (.bool true)
    | .neq => some (.bool false)
    | _ => none
  | _, _, _ => none

def abins (op : BinOp) (ks : List Nat) (x y : AV) : Option AV :=
  match x, y with
  | .agg a, .agg b =>
    match op with
    | .eql => (acells ks a b).map .bool
    | .neq => (acells ks a b).map fun r => .bool (!r)
    | _ => none
  | _, _ => none

def aun (op : UnOp) (x : AV) : Option AV :=
  match op, x with
  | .not, .bool b => some (.bool (!b))
  | .neg, .int k n => some (.int k (k.wrap (0 - n)))
  | _, _ => none

def afill : List AV → List (Nat × Nat × List AV) → Option (List AV)
  | cells, [] => some cells
  | cells, (off, size, v) :: rest =>
    if v.length = size ∧ off + size ≤ cells.length then afill (cells.take off ++ v ++ cells.drop (off + size)) rest else none

def asize : AObj → Nat
  | .row _ _ _ _ rows => rows.length
  | .box _ => 1
  | .map _ => 0

def keyEq (kd : Nat) (ks : List Nat) (x y : AV) : Option Bool :=
  match kd, x, y with
  | 0, .int k a, .int k' b => if k = k' then some (a == b) else none
  | 1, .bool a, .bool b => some (a == b)
  | 2, .str a, .str b => some (a == b)
  | 3, .agg a, .agg b => acells ks a b
  | _, _, _ => none

def mfind (kd : Nat) (ks : List Nat) : List (AV × AV) → AV → Option (Option AV)
  | [], k => match keyEq kd ks k k with
    | some _ => some none
    | none => none
  | (k', v) :: r, k => match keyEq kd ks k k' with
    | some true => some (some v)
    | some false => mfind kd ks r k
    | none => none

def mput (kd : Nat) (ks : List Nat) : List (AV × AV) → AV → AV → Option (List (AV × AV))
  | [], k, v => match keyEq kd ks k k with
    | some _ => some [(k, v)]
    | none => none
  | (k', v') :: r, k, v => match keyEq kd ks k k' with
    | some true => some ((k, v) :: r)
    | some false => (mput kd ks r k v).map fun r' => (k', v') :: r'
    | none => none

def bnd (e : Env) (x : Option AX) (dflt : Nat) : Option Nat :=
  match x with
  | none => some dflt
  | some a => match a.ev e with
    | .int _ n => if 0 ≤ n then some n.toNat else none
    | _ => none

def agetl (l : List AX) (e : Env) : List AV := l.map (·.ev e)

def foldMin (mx : Bool) : IntKind → Int → List AV → Option AV
  | k, a, [] => some (.int k a)
  | k, a, .int k' b :: r => if k = k' then foldMin mx k (if mx then (if a < b then b else a) else (if b < a then b else a)) r else none
  | _, _, _ => none

def St.fresh (s : St) : Id := s.p ++ [s.k]
def St.add (s : St) (o : AObj) : St := { s with heap := hadd s.heap (s.p ++ [s.k]) o, k := s.k + 1 }

def rowsOf (H : Heap) (v : AV) (sz : Nat) : Option (List (List AV)) :=
  match v with
  | .list sz' rows => if sz' = sz then some rows else none
  | .nils => some []
  | .emp => some []
  | .own id n => match hget H id with
    | some (.row _ _ _ sz' rows) => if sz' = sz ∧ rows.length = n then some rows else none
    | _ => none
  | _ => none

def partsOf (e : Env) (H : Heap) (raw : Bool) : List (Nat × AX) → Option (List (Nat × List AV) × Heap)
  | [] => some ([], H)
  | (i, x) :: r =>
    match (if raw then some (x.ev e, H) else fz H (x.ev e)) with
    | some (v, H1) =>
      match cellsOf v, partsOf e H1 raw r with
      | some cs, some (l, H2) => some ((i, cs) :: l, H2)
      | _, _ => none
    | none => none

def partsOfA (e : Env) : List (Nat × Nat × AX) → Option (List (Nat × Nat × List AV))
  | [] => some []
  | (off, sz, x) :: r =>
    match cellsOf (x.ev e), partsOfA e r with
    | some cs, some l => some ((off, sz, cs) :: l)
    | _, _ => none

def setRows : List (List AV) → List (Nat × List AV) → Option (List (List AV))
  | rows, [] => some rows
  | rows, (i, cs) :: r => match rows[i]? with
    | some old => if old.length = cs.length then setRows (rows.set i cs) r else none
    | none => none

def loadObj (o : AObj) (n i j m : Nat) : Option (List AV) :=
  match o with
  | .row _ _ _ _ rows => if rows.length = n then (rows[i]?).map fun r => (r.drop j).take m else none
  | .box cs => if n = 1 ∧ i = 0 then some ((cs.drop j).take m) else none
  | .map _ => none

def appG (elem sz bytes : Nat) (xv yv : AV) (H : Heap) : Option (AV × Heap) :=
  match rowsOf H yv sz with
  | some new => match xv with
    | .own id n => match hget H id with
      | some (.row wr flat el sz' rows) =>
        if el = elem ∧ sz' = sz ∧ rows.length = n ∧ (n + new.length) * bytes ≤ 140737488355328 then
          let fl := match yv with
            | .own id2 _ => match hget H id2 with
              | some (.row _ fl _ _ _) => fl
              | _ => false
            | _ => true
          some (.own id (n + new.length), hset H id (.row wr (flat && fl) el sz' (rows ++ new)))
        else none
      | _ => none
    | _ => none
  | none => none

def ains (ins : AIns) (s : St) : Option (AV × St) :=
  let e := s.env
  match ins with
  | .mov x => some (x.ev e, s)
  | .anil elem sz => some (.own (s.p ++ [s.k]) 0, s.add (.row true true elem sz []))
  | .pick c a b => match c.ev e with
    | .bool t => some (if t then a.ev e else b.ev e, s)
    | _ => none
  | .new zero => some (.ref (s.p ++ [s.k]) 1 0 0, s.add (.box zero))
  | .box x => match cellsOf (x.ev e) with
    | some cs => some (.ref (s.p ++ [s.k]) 1 0 0, s.add (.box cs))
    | none => none
  | .agg zero parts => match partsOfA e parts with
    | some l => (afill zero l).map fun cs => (.agg cs, s)
    | none => none
  | .mkl elem sz zero n parts raw => match partsOf e s.heap raw parts with
    | some (l, H) => match setRows (List.replicate n zero) l with
      | some rows => some (.own (s.p ++ [s.k]) n, St.add { s with heap := H } (.row true (!raw) elem sz rows))
      | none => none
    | none => none
  | .load agg m p => match p.ev e with
    | .rp cs => if m ≤ cs.length then (ofCells agg (cs.take m)).map fun v => (v, s) else none
    | .ref id n i j => match hget s.heap id with
      | some o => match loadObj o n i j m with
        | some cs => if cs.length = m then (ofCells agg cs).map fun v => (v, s) else none
        | none => none
      | none => none
    | _ => none
  | .store raw m p x => match p.ev e with
    | .ref id n i j => match hget s.heap id with
      | some (.row true flat el sz rows) =>
        match (if raw then some (x.ev e, s.heap) else fz s.heap (x.ev e)) with
        | some (v, H) => match cellsOf v, rows[i]?, hget H id with
          | some cs, some old, some (.row true _ _ _ _) => if rows.length = n ∧ cs.length = m ∧ j + m ≤ old.length then
              some (.undef, { s with heap := hset H id (.row true (flat && !raw) el sz (rows.set i (old.take j ++ cs ++ old.drop (j + m)))) }) else none
          | _, _, _ => none
        | none => none
      | some (.box cells) => match cellsOf (x.ev e) with
        | some cs => if n = 1 ∧ i = 0 ∧ cs.length = m ∧ j + m ≤ cells.length then
            some (.undef, { s with heap := hset s.heap id (.box (cells.take j ++ cs ++ cells.drop (j + m))) }) else none
        | none => none
      | _ => none
    | _ => none
  | .nilck x => match x.ev e with
    | .rp cs => some (.rp cs, s)
    | .ref id n i j => some (.ref id n i j, s)
    | .func f caps => some (.func f caps, s)
    | _ => none
  | .bin op ty x y => (abin op ty (x.ev e) (y.ev e)).map fun v => (v, s)
  | .bins op ks x y => (abins op ks (x.ev e) (y.ev e)).map fun v => (v, s)
  | .un op x => (aun op (x.ev e)).map fun v => (v, s)
  | .conv k x => match x.ev e with
    | .int _ n => some (.int k (k.wrap n), s)
    | _ => none
  | .faddr off x => match x.ev e with
    | .rp cs => some (.rp (cs.drop off), s)
    | .ref id n i j => some (.ref id n i (j + off), s)
    | _ => none
  | .fld agg off m x => match x.ev e with
    | .agg cs => if off + m ≤ cs.length then (ofCells agg ((cs.drop off).take m)).map fun v => (v, s) else none
    | _ => none
  | .aidx agg m len x i => match x.ev e, i.ev e with
    | .agg cs, .int _ n => if 0 ≤ n ∧ n < len ∧ n.toNat * m + m ≤ cs.length then (ofCells agg ((cs.drop (n.toNat * m)).take m)).map fun v => (v, s) else none
    | _, _ => none
  | .iaddr sz x i => match x.ev e, i.ev e with
    | .list sz' rows, .int _ n => if sz' = sz ∧ 0 ≤ n then (rows[n.toNat]?).map fun r => (.rp r, s) else none
    | .own id len, .int _ n => match hget s.heap id with
      | some (.row _ _ _ sz' rows) => if sz' = sz ∧ rows.length = len ∧ 0 ≤ n ∧ n < len then some (.ref id len n.toNat 0, s) else none
      | _ => none
    | _, _ => none
  | .sidx x i => match x.ev e, i.ev e with
    | .str b, .int _ n => if 0 ≤ n then (b[n.toNat]?).map fun c => (.int .u8 c.toNat, s) else none
    | _, _ => none
  | .isnil neg x => match x.ev e with
    | .nils => some (.bool (!neg), s)
    | .emp => some (.bool neg, s)
    | .list _ (_ :: _) => some (.bool neg, s)
    | .own id n => match hget s.heap id with
      | some (.row _ _ _ _ rows) => if rows.length = n ∧ 0 < n then some (.bool neg, s) else none
      | _ => none
    | _ => none
  | .sslc x lo hi => match x.ev e with
    | .str b => match bnd e hi b.size with
      | some h => match bnd e lo 0 with
        | some l => if l ≤ h ∧ h ≤ b.size then some (.str (b.extract l h), s) else none
        | none => none
      | none => none
    | _ => none
  | .zap elem sz x => match rowsOf s.heap (x.ev e) sz with
    | some _ => some (.own (s.p ++ [s.k]) 0, s.add (.row true true elem sz []))
    | none => none
  | .tlz sz x i => match x.ev e, i.ev e with
    | .own id n, .int _ k => match hget s.heap id with
      | some (.row true _ _ sz' rows) => if sz' = sz ∧ rows.length = n ∧ 0 ≤ k ∧ k < n then some (.tl id n k.toNat, s) else none
      | _ => none
    | _, _ => none
  | .clr elem sz zero x => match x.ev e with
    | .tl id n i => match hget s.heap id with
      | some (.row true fl el sz' rows) => if el = elem ∧ sz' = sz ∧ rows.length = n ∧ i < n then
          some (.undef, { s with heap := hset s.heap id (.row true fl el sz' (rows.take i ++ List.replicate (n - i) zero)) }) else none
      | _ => none
    | _ => none
  | .slc sz x lo hi mx => match x.ev e with
    | v => match rowsOf s.heap v sz with
      | some rows => match bnd e hi rows.length with
        | some h => match bnd e lo 0 with
          | some l => match bnd e mx rows.length with
            | some m =>
              if l ≤ h ∧ h ≤ m ∧ m ≤ rows.length then
                match v with
                | .own id n => if l = 0 ∧ h = n ∧ mx.isNone then some (v, s) else
                  match fz s.heap v with
                  | some (.list _ rows', H) => some (.list sz ((rows'.take h).drop l), { s with heap := H })
                  | _ => none
                | _ => some (.list sz ((rows.take h).drop l), s)
              else none
            | none => none
          | none => none
        | none => none
      | none => none
  | .ext x i => match x.ev e with
    | .tuple vs => (vs[i]?).map fun v => (v, s)
    | _ => none
  | .mks elem sz bytes zero l => match l.ev e with
    | .int .i64 n => if 0 ≤ n ∧ n * bytes ≤ 140737488355328 then
        some (.own (s.p ++ [s.k]) n.toNat, s.add (.row true true elem sz (List.replicate n.toNat zero))) else none
    | _ => none
  | .mkf f caps => some (.func f (agetl caps e), s)
  | .mkm => some (.map (s.p ++ [s.k]), s.add (.map []))
  | .look kd ks zero ok m k => match m.ev e with
    | .map id => match hget s.heap id with
      | some (.map es) => match mfind kd ks es (k.ev e) with
        | some (some v) => some (if ok then .tuple [v, .bool true] else v, s)
        | some none => some (if ok then .tuple [zero, .bool false] else zero, s)
        | none => none
      | _ => none
    | _ => none
  | .mset kd ks m k v => match m.ev e with
    | .map id => match fz s.heap (v.ev e) with
      | some (x, H) => match hget H id with
        | some (.map es) => match mput kd ks es (k.ev e) x with
          | some es' => some (.undef, { s with heap := hset H id (.map es') })
          | none => none
        | _ => none
      | none => none
    | _ => none
  | .len ty x => match ty, x.ev e with
    | 0, .str b => some (.int .i64 b.size, s)
    | 1, .list _ rows => some (.int .i64 rows.length, s)
    | 1, .nils => some (.int .i64 0, s)
    | 1, .emp => some (.int .i64 0, s)
    | 1, .own id n => match hget s.heap id with
      | some (.row _ _ _ _ rows) => if rows.length = n then some (.int .i64 n, s) else none
      | _ => none
    | 2, .map id => match hget s.heap id with
      | some (.map es) => some (.int .i64 es.length, s)
      | _ => none
    | _, _ => none
  | .app elem sz bytes x y => match x.ev e with
    | .nils => match appG elem sz bytes (.own (s.p ++ [s.k]) 0) (y.ev e) (hadd s.heap (s.p ++ [s.k]) (.row true true elem sz [])) with
      | some (v, H) => some (v, { s with heap := H })
      | none => none
    | xv => match appG elem sz bytes xv (y.ev e) s.heap with
      | some (v, H) => some (v, { s with heap := H })
      | none => none
  | .mm mx xs => match agetl xs e with
    | .int k a :: r => (foldMin mx k a r).map fun v => (v, s)
    | _ => none
  | .gsl n x => match x.ev e with
    | .rp cs => if 0 < n ∧ cs.length = n then some (.list 1 (cs.map fun c => [c]), s) else none
    | _ => none
  | .s2b x => match x.ev e with
    | .str b => some (.list 1 (b.data.toList.map fun c => [.int .u8 c.toNat]), s)
    | _ => none
  | .call _ _ => none
  | .callv _ _ => none
  | .pcall _ _ => none
  | .lst _ sz zero n parts => match partsOf e s.heap true parts with
    | some (l, _) => match setRows (List.replicate n zero) l with
      | some rows => if n = 0 then none else some (.list sz rows, s)
      | none => none
    | none => none
  | .storew m p x => match p.ev e, cellsOf (x.ev e) with
    | .ref id 1 0 0, some cs => match hget s.heap id with
      | some (.box cells) => if cells.length = m ∧ cs.length = m then some (.undef, { s with heap := hset s.heap id (.box cs) }) else none
      | _ => none
    | _, _ => none

def argsOf (e : Env) : Heap → List (Bool × AX) → Option (List AV × Heap)
  | H, [] => some ([], H)
  | H, (byv, x) :: r =>
    match (if byv then fz H (x.ev e) else some (x.ev e, H)) with
    | some (v, H1) => match argsOf e H1 r with
      | some (l, H2) => some (v :: l, H2)
      | none => none
    | none => none

def putd (e : Env) (d : Option Nat) (v : AV) : Env :=
  match d with
  | some i => eset e i v
  | none => e

def wanted (e : Env) (g : Option (Nat × Bool)) : Option Bool :=
  match g with
  | none => some true
  | some (i, want) => match eget e i with
    | .bool b => some (b == want)
    | .tuple [] => some false
    | _ => none

abbrev CallF := Nat → Id → List AV → Heap → Option (AV × Heap)

def acallIns (call : CallF) (s : St) (f : Nat) (pre : List AV) (args : List (Bool × AX)) : Option (AV × St) :=
  match argsOf s.env s.heap args with
  | some (l, H) => match call f (s.p ++ [s.k]) (l ++ pre) H with
    | some (r, H') => some (r, { s with heap := H', k := s.k + 1 })
    | none => none
  | none => none

mutual
def pureB : AV → Bool
  | .undef | .bool _ | .int _ _ | .str _ | .nils | .emp | .nilp | .nilm | .nilf | .nili => true
  | .list _ r => pureBB r
  | .agg l => pureBs l
  | .tuple l => pureBs l
  | .func _ l => pureBs l
  | _ => false
def pureBs : List AV → Bool
  | [] => true
  | x :: l => pureB x && pureBs l
def pureBB : List (List AV) → Bool
  | [] => true
  | x :: l => pureBs x && pureBB l
end
def astep (call : CallF) (i : AIns) (s : St) : Option (AV × St) :=
  match i with
  | .call f args => acallIns call s f [] args
  | .callv x args => match x.ev s.env with
    | .func f caps => if f < 100000 then acallIns call s f caps args else none
    | _ => none
  | .pcall f args => if pureBs (agetl args s.env) then match call f [] (agetl args s.env) [] with
      | some (v, []) => if pureB v then some (v, s) else none
      | _ => none
    else none
  | i => ains i s

def aregion (call : CallF) : List AIn → Nat → St → Option St
  | [], k, s => some { s with k := k }
  | i :: r, k, s => match wanted s.env i.g with
    | some true => match astep call i.i { s with k := k } with
      | some (v, s') => aregion call r (k + 1) { s' with env := putd s'.env i.d v }
      | none => none
    | some false => aregion call r (k + 1) { s with env := putd s.env i.d (.tuple []) }
    | none => none

mutual
def beqA : AV → AV → Bool
  | .undef, .undef => true
  | .bool a, .bool b => a == b
  | .int k a, .int k' b => decide (k = k') && a == b
  | .str a, .str b => decide (a = b)
  | .nils, .nils => true
  | .list sz r, .list sz' r' => sz == sz' && beqLL r r'
  | .own i n, .own i' n' => i == i' && n == n'
  | .tl i n k, .tl i' n' k' => i == i' && n == n' && k == k'
  | .emp, .emp => true
  | .agg a, .agg b => beqL a b
  | .tuple a, .tuple b => beqL a b
  | .nilp, .nilp => true
  | .rp a, .rp b => beqL a b
  | .ref i n j k, .ref i' n' j' k' => i == i' && n == n' && j == j' && k == k'
  | .nilm, .nilm => true
  | .map i, .map i' => i == i'
  | .nilf, .nilf => true
  | .func f c, .func f' c' => f == f' && beqL c c'
  | .nili, .nili => true
  | .iface t v, .iface t' v' => t == t' && beqA v v'
  | _, _ => false
def beqL : List AV → List AV → Bool
  | [], [] => true
  | a :: r, b :: r' => beqA a b && beqL r r'
  | _, _ => false
def beqLL : List (List AV) → List (List AV) → Bool
  | [], [] => true
  | a :: r, b :: r' => beqL a b && beqLL r r'
  | _, _ => false
end
def beqE : List (AV × AV) → List (AV × AV) → Bool
  | [], [] => true
  | (a, b) :: r, (a', b') :: r' => beqA a a' && beqA b b' && beqE r r'
  | _, _ => false
def beqO : AObj → AObj → Bool
  | .row w f e s r, .row w' f' e' s' r' => w == w' && f == f' && e == e' && s == s' && beqLL r r'
  | .box c, .box c' => beqL c c'
  | .map e, .map e' => beqE e e'
  | _, _ => false
def beqF : Fr → Fr → Bool
  | [], [] => true
  | (i, o) :: r, (i', o') :: r' => i == i' && beqO o o' && beqF r r'
  | _, _ => false
def beqH : Heap → Heap → Bool
  | [], [] => true
  | f :: r, f' :: r' => beqF f f' && beqH r r'
  | _, _ => false

inductive Cl where
  | l
  | r (id : Id)
  | n (o : AObj)
  | w (id : Id) (o : AObj)
  | c
  | x
  | y (f : Id → Bool)

def clsOf (ins : AIns) (e : Env) : Cl :=
  match ins with
  | .mov _ | .pick .. | .agg .. | .nilck _ | .bin .. | .bins .. | .un .. | .conv .. | .faddr .. | .fld .. | .aidx .. | .sidx .. | .sslc .. | .ext .. | .mkf .. | .mm .. | .lst .. | .pcall .. => .l
  | .load _ _ p => match p.ev e with
    | .rp _ => .l
    | .ref id _ _ _ => .r id
    | _ => .x
  | .iaddr _ x _ => match x.ev e with
    | .list _ _ => .l
    | .own id _ => .r id
    | _ => .x
  | .len _ x => match x.ev e with
    | .str _ | .list _ _ | .nils | .emp => .l
    | .own id _ | .map id => .r id
    | _ => .x
  | .slc _ x _ _ _ => match x.ev e with
    | .list _ _ | .nils | .emp => .l
    | _ => .x
  | .isnil _ x => match x.ev e with
    | .list _ _ | .nils | .emp => .l
    | .own id _ => .r id
    | _ => .x
  | .new zero => .n (.box zero)
  | .box x => match cellsOf (x.ev e) with
    | some cs => .n (.box cs)
    | none => .x
  | .storew _ p x => match p.ev e, cellsOf (x.ev e) with
    | .ref id 1 0 0, some cs => .w id (.box cs)
    | _, _ => .x
  | .call _ _ | .callv _ _ => .c
  | _ => .x

def idk (id : Id) : Nat := id.getLast?.getD 0
def fins : Fr → Id → AObj → Fr
  | [], id, o => [(id, o)]
  | (i, x) :: r, id, o => if idk id < idk i then (i, x) :: fins r id o else (id, o) :: (i, x) :: r
def hins : Heap → Id → AObj → Heap
  | [], id, o => [[(id, o)]]
  | f :: r, id, o => fins f id o :: r

structure Rec where
  c : Cl
  pre : List Nat
  me : Id

def needs (ri rj : Rec) : Bool :=
  match ri.c, rj.c with
  | .l, _ | _, .l => false
  | .r _, .r _ | .r _, .c | .c, .r _ | .n _, .n _ => false
  | .r id, .n _ => rj.me == id
  | .n _, .r id => ri.me == id
  | .r id, .w id' _ | .w id _, .r id' | .w id _, .w id' _ => id == id'
  | .w id _, .n _ => rj.me == id
  | .n _, .w id _ => ri.me == id
  | .r id, .y f | .y f, .r id => !f id
  | _, _ => true
def keeps (H H' : Heap) (id : Id) : Bool :=
  match hget H id, hget H' id with
  | some a, some b => beqO a b
  | _, _ => false

def adstep (call : CallF) (i : AIn) (s : St) : Option (Cl × AV × St) :=
  match wanted s.env i.g with
  | some true => match astep call i.i s with
    | some (v, s') => match clsOf i.i s.env with
      | .n o => if (hget s.heap (s.p ++ [s.k])).isNone then some (.n o, v, { s with heap := hins s.heap (s.p ++ [s.k]) o }) else none
      | .c => if beqH s'.heap s.heap then some (.c, v, { s with heap := s.heap }) else some (.y (keeps s.heap s'.heap), v, s')
      | .x => some (.y (keeps s.heap s'.heap), v, s')
      | c => some (c, v, s')
    | none => none
  | some false => some (.l, .tuple [], s)
  | none => none

def adrun (call : CallF) : List AIn → Nat → St → Option (St × List Rec)
  | [], k, s => some ({ s with k := k }, [])
  | i :: r, k, s => match adstep call i { s with k := k } with
    | some (c, v, s') => match adrun call r (k + 1) { s' with env := putd s'.env i.d v } with
      | some (s2, l) => some (s2, ⟨c, i.pre, s.p ++ [k]⟩ :: l)
      | none => none
    | none => none

def apart1 (i : Nat) (ri : Rec) : List Rec → Bool
  | [] => true
  | rj :: l => (!needs ri rj || rj.pre.contains i) && apart1 i ri l
def apart : Nat → List Rec → Bool
  | _, [] => true
  | i, r :: l => apart1 i r l && apart (i + 1) l

def adreg (call : CallF) (is : List AIn) (s : St) : Option St :=
  match adrun call is s.k s with
  | some (s', l) => if apart 0 l then some s' else none
  | none => none

def axr : AX → List Nat
  | .t i => [i]
  | .k _ => []
def optr : Option AX → List Nat
  | some x => axr x
  | none => []
def reads : AIns → List Nat
  | .mov x => axr x
  | .anil _ _ => []
  | .pick c a b => axr c ++ axr a ++ axr b
  | .new _ => []
  | .box x => axr x
  | .agg _ parts => parts.flatMap fun p => axr p.2.2
  | .mkl _ _ _ _ parts _ => parts.flatMap fun p => axr p.2
  | .load _ _ p => axr p
  | .store _ _ p x => axr p ++ axr x
  | .nilck x => axr x
  | .bin _ _ x y => axr x ++ axr y
  | .bins _ _ x y => axr x ++ axr y
  | .un _ x => axr x
  | .conv _ x => axr x
  | .faddr _ x => axr x
  | .fld _ _ _ x => axr x
  | .aidx _ _ _ x i => axr x ++ axr i
  | .iaddr _ x i => axr x ++ axr i
  | .sidx x i => axr x ++ axr i
  | .zap _ _ x => axr x
  | .tlz _ x i => axr x ++ axr i
  | .clr _ _ _ x => axr x
  | .isnil _ x => axr x
  | .slc _ x lo hi mx => axr x ++ optr lo ++ optr hi ++ optr mx
  | .sslc x lo hi => axr x ++ optr lo ++ optr hi
  | .ext x _ => axr x
  | .mks _ _ _ _ l => axr l
  | .mkf _ caps => caps.flatMap axr
  | .mkm => []
  | .look _ _ _ _ m k => axr m ++ axr k
  | .mset _ _ m k v => axr m ++ axr k ++ axr v
  | .len _ x => axr x
  | .app _ _ _ x y => axr x ++ axr y
  | .mm _ xs => xs.flatMap axr
  | .call _ args => args.flatMap fun p => axr p.2
  | .callv x args => axr x ++ args.flatMap fun p => axr p.2
  | .lst _ _ _ _ parts => parts.flatMap fun p => axr p.2
  | .storew _ p x => axr p ++ axr x
  | .s2b x => axr x
  | .gsl _ x => axr x
  | .pcall _ args => args.flatMap axr
def readsG (i : AIn) : List Nat := (match i.g with | some (t, _) => [t] | none => []) ++ reads i.i

def clash (a b : AIn) : Bool :=
  (match a.d with | some d => (readsG b).contains d || b.d == some d | none => false) || (match b.d with | some d => (readsG a).contains d | none => false)
def slots1 (i : Nat) (a : AIn) : List AIn → Bool
  | [] => true
  | b :: r => (!clash a b || b.pre.contains i) && slots1 i a r
def slotsOK : Nat → List AIn → Bool
  | _, [] => true
  | i, a :: r => slots1 i a r && slotsOK (i + 1) r

def slots (e : Env) : List Nat := e.map (·.1)

def endr (mg : Bool) (H : Heap) : Heap := if mg then hmerge H else hpop H
def around (exec : ACode → St → Option (AExit × St)) (c : ACode) (q : Id) (sl : List Nat) (mg : Bool) : Nat → Nat → Env → Heap → Option (AExit × Env × Heap)
  | 0, _, _, _ => none
  | n + 1, j, e, H =>
    match exec c { env := e, heap := [] :: H, p := q ++ [j], k := 0 } with
    | some (.normal, s') => around exec c q sl mg n (j + 1) (ekeep s'.env sl) (endr mg s'.heap)
    | some (x, s') => some (x, s'.env, hmerge s'.heap)
    | none => none

def unnil : List Nat → List AV → List AV
  | z :: zs, v :: l => (match v with
    | .nils => if z = 0 then .nils else .list z []
    | v => v) :: unnil zs l
  | [], l => l
  | _, [] => []
def resOf (e : Env) (H : Heap) : List RV → Option (List AV)
  | [] => some []
  | .t i :: r => match resOf e H r with
    | some l => some (eget e i :: l)
    | none => none
  | .c i agg m :: r => match eget e i with
    | .ref id n ix j => match hget H id with
      | some o => match loadObj o n ix j m with
        | some cs => if cs.length = m then
            match ofCells agg cs, resOf e H r with
            | some v, some l => some (v :: l)
            | _, _ => none
          else none
        | none => none
      | none => none
    | _ => none
  | .cz i m zs :: r => match eget e i with
    | .ref id n ix j => match hget H id with
      | some o => match loadObj o n ix j m with
        | some cs => if cs.length = m then
            match ofCells true (unnil zs cs), resOf e H r with
            | some v, some l => some (v :: l)
            | _, _ => none
          else none
        | none => none
      | none => none
    | _ => none

def one : List AV → AV
  | [v] => v
  | l => .tuple l

def params : Nat → List AV → Env
  | _, [] => []
  | i, v :: r => (i, v) :: params (i + 1) r

def abody (exec : ACode → St → Option (AExit × St)) (fn : AFn) (q : Id) (args : List AV) (H : Heap) : Option (AV × Heap) :=
  if args.length = fn.np then
    match exec fn.body { env := params 0 args, heap := [] :: H, p := q, k := 0 } with
    | some (.normal, s) | some (.ret, s) =>
      match resOf s.env s.heap fn.res with
      | some l =>
        if fn.keep = 0 then
          match fz s.heap (one l) with
          | some (v, H') => some (v, hpop H')
          | none => none
        else if fn.keep = 1 then
          match one l with
          | .own id n => match hget s.heap id with
            | some (.row wr flat e sz rows) => if rows.length = n then
                match hget (hpop s.heap) id with
                | some _ => some (.own id n, hpop s.heap)
                | none => some (.own id n, hadd (hpop s.heap) id (.row wr flat e sz rows))
              else none
            | _ => none
          | _ => none
        else some (one l, hmerge s.heap)
      | none => none
    | _ => none
  else none

inductive AFun where
  | code (fn : AFn)
  | fork (fn : AFn)
  | ora (spec : Id → List AV → Heap → Option (AV × Heap))
  | dfr (fn : AFn) (fd : Nat)

abbrev FT := Nat → Option AFun

mutual
def aexec (ft : FT) : Nat → ACode → St → Option (AExit × St)
  | 0, _, _ => none
  | n + 1, c, s =>
    match c with
    | .skip => some (.normal, s)
    | .reg is drop => match aregion (acall ft n) is s.k s with
      | some s' => some (.normal, { s' with env := edrop s'.env drop })
      | none => none
    | .dreg is drop => match adreg (acall ft n) is s with
      | some s' => some (.normal, { s' with env := edrop s'.env drop })
      | none => none
    | .seq a b => match aexec ft n a s with
      | some (.normal, s') => aexec ft n b s'
      | r => r
    | .cond c drop a b => match c.ev s.env with
      | .bool t => aexec ft n (if t then a else b) { s with env := edrop s.env drop }
      | _ => none
    | .block id c => match aexec ft n c s with
      | some (.exit id', s') => if id' = id then some (.normal, { s' with env := ekeep s'.env (slots s.env) }) else some (.exit id', s')
      | r => r
    | .loop mg c => match around (aexec ft n) c (s.p ++ [s.k]) (slots s.env) mg n 0 s.env s.heap with
      | some (x, e, H) => some (x, { env := e, heap := H, p := s.p, k := s.k + 1 })
      | none => none
    | .exit id => some (.exit id, s)
    | .ret => some (.ret, s)
    | .stuck => none
def acall (ft : FT) : Nat → CallF
  | 0, _, _, _, _ => none
  | n + 1, f, q, args, H =>
    match ft f with
    | some (.code fn) => abody (aexec ft n) fn q args H
    | some (.fork fn) => match args with
      | .list _ [] :: r => match abody (aexec ft n) fn q (.nils :: r) H, abody (aexec ft n) fn q (.emp :: r) H with
        | some (v, H'), some (v2, H2) => if beqA v2 v && beqH H2 H' then some (v, H') else none
        | _, _ => none
      | _ => abody (aexec ft n) fn q args H
    | some (.ora spec) => spec q args H
    | some (.dfr fn _) => abody (aexec ft n) fn q args H
    | none => none
end

end Go.Proofs.Abs

namespace Go.Proofs.Abs

structure Ctx where
  H : Heap
  φ : Id → Value
  w : World
  Av : Id → Prop
  X : Nat → Nat → Prop

def blk : Value → Option Nat
  | .slice (some a) _ _ => some a.block
  | .pointer (some a) => some a.block
  | .map (some g) => some g
  | _ => none

def mutAt : AObj → Nat → Prop
  | .row wr _ _ sz rows, off => wr = true ∨ rows.length * sz ≤ off
  | .box _, _ => True
  | .map _, _ => True

def cellsz : AObj → Nat
  | .row _ _ _ sz _ => sz
  | _ => 0

def okind : AObj → Nat × Nat
  | .row _ _ _ sz _ => (0, sz)
  | .box _ => (1, 0)
  | .map _ => (2, 0)
theorem cellsz_of {o o' : AObj} (h : okind o' = okind o) : cellsz o' = cellsz o := by cases o <;> cases o' <;> simp_all [okind, cellsz]

def Obl (C : Ctx) (g : Nat) : Prop := ∃ id o, hget C.H id = some o ∧ blk (C.φ id) = some g
def Mut0 (C : Ctx) (g off : Nat) : Prop := ∃ id o, hget C.H id = some o ∧ blk (C.φ id) = some g ∧ mutAt o off
def Mut (C : Ctx) (g off : Nat) : Prop := C.X g off ∨ Mut0 C g off
def Fro (C : Ctx) (ad : Addr) (j : Nat) (v : Value) : Prop := C.w.cell? ⟨ad.block, ad.off + j, none⟩ = some v ∧ ¬ Mut C ad.block (ad.off + j)

inductive Rep (C : Ctx) : AV → Value → Prop
  | undef (v : Value) : Rep C .undef v
  | bool (b : Bool) : Rep C (.bool b) (.bool b)
  | int (k : IntKind) (n : Int) : Rep C (.int k n) (.int k n)
  | str (s : ByteArray) : Rep C (.str s) (.string s)
  | nils : Rep C .nils (.slice none 0 0)
  | list (sz : Nat) (rows : List (List AV)) (base : Option Addr) (cap : Nat) (vals : Nat → Value) (h0 : 0 < sz) (hc : rows.length ≤ cap) (hz : base = none → cap = 0) (hr : ∀ r ∈ rows, r.length = sz)
      (hb : rows ≠ [] → ∃ ad, base = some ad ∧ ad.spot = none) (hf : ∀ (j : Nat) (av : AV), rows.flatten[j]? = some av → isCell av = true ∧ ∀ ad, base = some ad → Fro C ad j (vals j))
      (hv : ∀ (j : Nat) (av : AV), rows.flatten[j]? = some av → Rep C av (vals j)) : Rep C (.list sz rows) (.slice base rows.length cap)
  | own (id : Id) (n : Nat) (v : Value) (ha : ¬ C.Av id) (hs : ∃ a l c, v = .slice a l c) (ho : ∀ o, hget C.H id = some o → n ≤ asize o ∧ (asize o = n → v = C.φ id ∨ (n = 0 ∧ C.φ id = .slice none 0 0 ∧ ∃ b, v = .slice b 0 0))) : Rep C (.own id n) v
  | emp (ad : Addr) (cap : Nat) : Rep C .emp (.slice (some ad) 0 cap)
  | tl (id : Id) (n i : Nat) (v : Value) (ha : ¬ C.Av id) (hs : ∃ a l c, v = .slice a l c)
      (ho : ∀ o, hget C.H id = some o → n ≤ asize o ∧ (asize o = n → ∃ g cap, C.φ id = .slice (some ⟨g, 0, none⟩) n cap ∧ v = .slice (some ⟨g, i * cellsz o, none⟩) (n - i) (cap - i))) : Rep C (.tl id n i) v
  | agg (cs : List AV) (vs : List Value) (hl : cs.length = vs.length) (hc : ∀ (j : Nat) (av : AV), cs[j]? = some av → isCell av = true) (hv : ∀ (j : Nat) av v, cs[j]? = some av → vs[j]? = some v → Rep C av v) : Rep C (.agg cs) (.agg vs.toArray)
  | tuple (cs : List AV) (vs : List Value) (hl : cs.length = vs.length) (hv : ∀ (j : Nat) av v, cs[j]? = some av → vs[j]? = some v → Rep C av v) : Rep C (.tuple cs) (.tuple vs.toArray)
  | nilp : Rep C .nilp (.pointer none)
  | rp (cs : List AV) (ad : Addr) (vals : Nat → Value) (hs : ad.spot = none) (hf : ∀ (j : Nat) (av : AV), cs[j]? = some av → isCell av = true ∧ Fro C ad j (vals j)) (hv : ∀ (j : Nat) (av : AV), cs[j]? = some av → Rep C av (vals j)) : Rep C (.rp cs) (.pointer (some ad))
  | ref (id : Id) (n i j : Nat) (v : Value) (ha : ¬ C.Av id) (hs : ∃ a, v = .pointer (some a))
      (ho : ∀ o, hget C.H id = some o → n ≤ asize o ∧ (asize o = n → ∃ g, blk (C.φ id) = some g ∧ v = .pointer (some ⟨g, i * cellsz o + j, none⟩))) : Rep C (.ref id n i j) v
  | nilm : Rep C .nilm (.map none)
  | map (id : Id) (v : Value) (ha : ¬ C.Av id) (hs : ∃ r, v = .map (some r)) (ho : ∀ o, hget C.H id = some o → okind o = (2, 0) → v = C.φ id) : Rep C (.map id) v
  | nilf : Rep C .nilf .nilFunc
  | func (f : Nat) (caps : List AV) (vs : List Value) (hl : caps.length = vs.length) (hv : ∀ (j : Nat) av v, caps[j]? = some av → vs[j]? = some v → Rep C av v) : Rep C (.func f caps) (.func (.func f) #[] vs.toArray)
  | nili : Rep C .nili .nilIface
  | iface (t : Nat) (av : AV) (v : Value) (hv : Rep C av v) : Rep C (.iface t av) (.iface t v)

def RepL (C : Ctx) (cs : List AV) (vs : List Value) : Prop := cs.length = vs.length ∧ ∀ (j : Nat) av v, cs[j]? = some av → vs[j]? = some v → Rep C av v

def Cells (l : List AV) : Prop := ∀ (j : Nat) av, l[j]? = some av → isCell av = true

def ObjRep (C : Ctx) (id : Id) : AObj → Prop
  | .row _ _ elem sz rows => 0 < sz ∧ (∀ r ∈ rows, r.length = sz) ∧ Cells rows.flatten ∧ ∃ xs, C.w.ownsRow 0 elem sz (C.φ id) rows.length xs ∧ RepL C rows.flatten xs
  | .box cells => Cells cells ∧ ∃ g cs e, C.φ id = .pointer (some ⟨g, 0, none⟩) ∧ C.w.heap[g]? = some (.cells cs e (0, 0)) ∧ RepL C cells cs.toList
  | .map es => ∃ g ents clock, C.φ id = .map (some g) ∧ C.w.heap[g]? = some (.map ents clock) ∧ RepL C (es.map (·.1)) (ents.toList.map (·.key)) ∧ RepL C (es.map (·.2)) (ents.toList.map (·.val))

def HND : Heap → Prop
  | [] => True
  | f :: r => (∀ id o, fget f id = some o → hget r id = none) ∧ HND r

def atomA : AV → Bool
  | .int _ _ => true
  | .bool _ => true
  | .str _ => true
  | _ => false
class Globs where
  tab : Nat → Option (List AV)
  atoms : ∀ n cs, tab n = some cs → cs.all atomA = true
variable [Globs]
def GlobOK (C : Ctx) : Prop := ∀ n cs, Globs.tab n = some cs → Rep C (.rp cs) (.pointer (some ⟨n, 0, none⟩))
theorem atom_rep {C C' : Ctx} {av : AV} {v : Value} (h : atomA av = true) (hr : Rep C av v) : Rep C' av v := by
  cases hr <;> first | exact .int _ _ | exact .bool _ | exact .str _ | (simp [atomA] at h)
structure HRep (C : Ctx) : Prop where
  nd : HND C.H
  av : ∀ id o, hget C.H id = some o → ¬ C.Av id
  obj : ∀ id o, hget C.H id = some o → ObjRep C id o
  inj : ∀ id id' o o' g, hget C.H id = some o → hget C.H id' = some o' → blk (C.φ id) = some g → blk (C.φ id') = some g → id = id'
  own : ∀ id o g off, hget C.H id = some o → blk (C.φ id) = some g → ¬ C.X g off
  xlt : ∀ g off, C.X g off → g < C.w.heap.size
  glob : GlobOK C

structure Ext (C C' : Ctx) : Prop where
  size : C.w.heap.size ≤ C'.w.heap.size
  tape : C'.w.tape = C.w.tape
  os : C'.w.os = C.w.os
  output : C'.w.output = C.w.output
  block : ∀ k, k < C.w.heap.size → ¬ Obl C k → C'.w.heap[k]? = C.w.heap[k]?
  cell : ∀ k off, k < C.w.heap.size → ¬ Mut C k off → C'.w.cell? ⟨k, off, none⟩ = C.w.cell? ⟨k, off, none⟩
  muts : ∀ k off, k < C.w.heap.size → Mut C' k off → Mut C k off
  obl : ∀ k, k < C.w.heap.size → Obl C' k → Obl C k
  av : ∀ id, C'.Av id → C.Av id
  x : C'.X = C.X
  old : ∀ id o', ¬ C.Av id → hget C'.H id = some o' → ∃ o, hget C.H id = some o ∧ okind o' = okind o ∧ asize o ≤ asize o' ∧ (asize o = asize o' → C'.φ id = C.φ id)

theorem cell_lt {w : World} {k off : Nat} {v : Value} (h : w.cell? ⟨k, off, none⟩ = some v) : k < w.heap.size := by
  unfold World.cell? at h
  rcases Nat.lt_or_ge k w.heap.size with hk | hk
  · exact hk
  · rw [Array.getElem?_eq_none hk] at h; simp at h

theorem Fro.ext {C C' : Ctx} (h : Ext C C') {ad : Addr} {j : Nat} {v : Value} (hf : Fro C ad j v) : Fro C' ad j v := by
  have hlt := cell_lt hf.1
  exact ⟨(h.cell _ _ hlt hf.2).trans hf.1, fun hm => hf.2 (h.muts _ _ hlt hm)⟩

theorem Rep.ext {C C' : Ctx} (h : Ext C C') {av : AV} {v : Value} (hr : Rep C av v) : Rep C' av v := by
  induction hr with
  | undef v => exact .undef v
  | bool b => exact .bool b
  | int k n => exact .int k n
  | str s => exact .str s
  | nils => exact .nils
  | emp ad cap => exact .emp ad cap
  | tl id n i v ha hs ho =>
    refine .tl id n i v (fun a => ha (h.av _ a)) hs fun o' e' => ?_
    obtain ⟨o, e, hk, hle, hφ⟩ := h.old id o' ha e'
    obtain ⟨h1, h2⟩ := ho o e
    refine ⟨Nat.le_trans h1 hle, fun he => ?_⟩
    obtain ⟨g, cap, hg, hv⟩ := h2 (by omega)
    exact ⟨g, cap, by rw [hφ (by omega)]; exact hg, by rw [cellsz_of hk]; exact hv⟩
  | list sz rows base cap vals h0 hc hz hr hb hf hv ih => exact .list sz rows base cap vals h0 hc hz hr hb (fun j av e => ⟨(hf j av e).1, fun ad ea => ((hf j av e).2 ad ea).ext h⟩) ih
  | own id n v ha hs ho =>
    refine .own id n v (fun a => ha (h.av _ a)) hs fun o' e' => ?_
    obtain ⟨o, e, _, hle, hφ⟩ := h.old id o' ha e'
    obtain ⟨h1, h2⟩ := ho o e
    exact ⟨Nat.le_trans h1 hle, fun he => by
      have : asize o = n := by omega
      rw [hφ (by omega)]; exact h2 this⟩
  | agg cs vs hl hc hv ih => exact .agg cs vs hl hc ih
  | tuple cs vs hl hv ih => exact .tuple cs vs hl ih
  | nilp => exact .nilp
  | rp cs ad vals hs hf hv ih => exact .rp cs ad vals hs (fun j av e => ⟨(hf j av e).1, (hf j av e).2.ext h⟩) ih
  | ref id n i j v ha hs ho =>
    refine .ref id n i j v (fun a => ha (h.av _ a)) hs fun o' e' => ?_
    obtain ⟨o, e, hk, hle, hφ⟩ := h.old id o' ha e'
    obtain ⟨h1, h2⟩ := ho o e
    refine ⟨Nat.le_trans h1 hle, fun he => ?_⟩
    obtain ⟨g, hg, hv⟩ := h2 (by omega)
    exact ⟨g, by rw [hφ (by omega)]; exact hg, by rw [cellsz_of hk]; exact hv⟩
  | nilm => exact .nilm
  | map id v ha hs ho =>
    refine .map id v (fun a => ha (h.av _ a)) hs fun o' e' k' => ?_
    obtain ⟨o, e, hk, hle, hφ⟩ := h.old id o' ha e'
    have k0 : okind o = (2, 0) := by rw [← hk]; exact k'
    have z : ∀ x : AObj, okind x = (2, 0) → asize x = 0 := by
      intro x hx
      cases x with
      | row => simp [okind] at hx
      | box => simp [okind] at hx
      | map => rfl
    rw [hφ (by rw [z o k0, z o' k'])]
    exact ho o e k0
  | nilf => exact .nilf
  | func f caps vs hl hv ih => exact .func f caps vs hl ih
  | nili => exact .nili
  | iface t av v hv ih => exact .iface t av v ih

theorem Ext.refl (C : Ctx) : Ext C C := ⟨Nat.le_refl _, rfl, rfl, rfl, fun _ _ _ => rfl, fun _ _ _ _ => rfl, fun _ _ _ h => h, fun _ _ h => h, fun _ h => h, rfl, fun _ o' _ h => ⟨o', h, rfl, Nat.le_refl _, fun _ => rfl⟩⟩

theorem Ext.trans {A B C : Ctx} (h : Ext A B) (k : Ext B C) : Ext A C where
  size := Nat.le_trans h.size k.size
  tape := k.tape.trans h.tape
  os := k.os.trans h.os
  output := k.output.trans h.output
  block := fun i hi ho => (k.block i (Nat.lt_of_lt_of_le hi h.size) (fun hb => ho (h.obl i hi hb))).trans (h.block i hi ho)
  cell := fun i off hi hm => (k.cell i off (Nat.lt_of_lt_of_le hi h.size) (fun hb => hm (h.muts i off hi hb))).trans (h.cell i off hi hm)
  muts := fun i off hi hm => h.muts i off hi (k.muts i off (Nat.lt_of_lt_of_le hi h.size) hm)
  obl := fun i hi hm => h.obl i hi (k.obl i (Nat.lt_of_lt_of_le hi h.size) hm)
  av := fun i hi => h.av i (k.av i hi)
  x := k.x.trans h.x
  old := fun id o2 ha e2 => by
    obtain ⟨o1, e1, k1, l1, f1⟩ := k.old id o2 (fun x => ha (h.av _ x)) e2
    obtain ⟨o0, e0, k0, l0, f0⟩ := h.old id o1 ha e1
    exact ⟨o0, e0, k1.trans k0, Nat.le_trans l0 l1, fun he => (f1 (by omega)).trans (f0 (by omega))⟩

theorem RepL.mono {C C' : Ctx} (h : ∀ av v, Rep C av v → Rep C' av v) {cs : List AV} {vs : List Value} (hr : RepL C cs vs) : RepL C' cs vs := ⟨hr.1, fun j av v e e' => h _ _ (hr.2 j av v e e')⟩

theorem ownsRow_step {w w' : World} {e sz n : Nat} {v : Value} {xs : List Value} (h : w.ownsRow 0 e sz v n xs) (hb : ∀ g, blk v = some g → w'.heap[g]? = w.heap[g]?) : w'.ownsRow 0 e sz v n xs := by
  obtain ⟨h1, h2⟩ := h
  refine ⟨h1, ?_⟩
  rcases h2 with h2 | ⟨g, cap, cur, hv, hg, hh, r⟩
  · exact .inl h2
  · exact .inr ⟨g, cap, cur, hv, hg, by rw [hb g (by rw [hv]; rfl)]; exact hh, r⟩

theorem ObjRep.step {C C' : Ctx} {id : Id} {o : AObj} (h : ObjRep C id o) (hφ : C'.φ id = C.φ id) (hb : ∀ g, blk (C.φ id) = some g → C'.w.heap[g]? = C.w.heap[g]?) (hr : ∀ av v, Rep C av v → Rep C' av v) : ObjRep C' id o := by
  cases o with
  | row wr fl e sz rows =>
    obtain ⟨h0, h1, h2, xs, h3, h4⟩ := h
    exact ⟨h0, h1, h2, xs, by rw [hφ]; exact ownsRow_step h3 hb, h4.mono hr⟩
  | box cells =>
    obtain ⟨h0, g, cs, e, h1, h2, h3⟩ := h
    exact ⟨h0, g, cs, e, hφ.trans h1, (hb g (by rw [h1]; rfl)).trans h2, h3.mono hr⟩
  | map es =>
    obtain ⟨g, ents, clock, h1, h2, h3, h4⟩ := h
    exact ⟨g, ents, clock, hφ.trans h1, (hb g (by rw [h1]; rfl)).trans h2, h3.mono hr, h4.mono hr⟩

theorem fget_fset (f : Fr) (id id' : Id) (x : AObj) : fget (fset f id x) id' = if id = id' ∧ (fget f id).isSome then some x else fget f id' := by
  induction f with
  | nil => simp [fset, fget]
  | cons p f ih =>
    obtain ⟨i, o⟩ := p
    by_cases h : i = id
    · subst h
      by_cases h2 : i = id'
      · subst h2; simp [fset, fget]
      · simp [fset, fget, h2]
    · simp only [fset, if_neg h, fget, ih]
      by_cases h2 : i = id'
      · subst h2
        simp [Ne.symm h]
      · simp [h2]

theorem hget_hset (H : Heap) (id id' : Id) (x : AObj) : hget (hset H id x) id' = if id = id' ∧ (hget H id).isSome then some x else hget H id' := by
  induction H with
  | nil => simp [hset, hget]
  | cons f r ih =>
    have hd : fget f id = none ∨ ∃ o, fget f id = some o := by cases fget f id <;> simp
    rcases hd with hf | ⟨o, hf⟩
    · simp only [hset, hget, hf, ih]
      by_cases h : id = id'
      · subst h; simp [hf]
      · simp [h]
    · simp only [hset, hget, hf, fget_fset]
      by_cases h : id = id'
      · subst h; simp
      · simp [h]

theorem hget_hadd (H : Heap) (id id' : Id) (x : AObj) : hget (hadd H id x) id' = if id = id' then some x else hget H id' := by
  cases H with
  | nil => by_cases h : id = id' <;> simp [hadd, hget, fget, h]
  | cons f r =>
    simp only [hadd, hget, fget]
    by_cases h : id = id' <;> simp [h]

theorem HND.hset {H : Heap} (h : HND H) (id : Id) (x : AObj) : HND (hset H id x) := by
  induction H with
  | nil => trivial
  | cons f r ih =>
    have hd : fget f id = none ∨ ∃ o, fget f id = some o := by cases fget f id <;> simp
    rcases hd.symm with ⟨o, hf⟩ | hf
    · simp only [Abs.hset, hf]
      refine ⟨fun id' o' e => ?_, h.2⟩
      rw [fget_fset] at e
      split at e
      · rename_i hc; rw [← hc.1]; exact h.1 id o hf
      · exact h.1 id' o' e
    · simp only [Abs.hset, hf]
      refine ⟨fun id' o' e => ?_, ih h.2⟩
      have hn := h.1 id' o' e
      rw [hget_hset]
      split
      · rename_i hc
        rw [← hc.1, hf] at e
        cases e
      · exact hn

theorem HND.hadd {H : Heap} (h : HND H) (id : Id) (x : AObj) (hn : hget H id = none) : HND (hadd H id x) := by
  cases H with
  | nil => exact ⟨fun _ _ _ => rfl, trivial⟩
  | cons f r =>
    refine ⟨fun id' o' e => ?_, h.2⟩
    simp only [fget] at e
    simp only [hget] at hn
    split at e
    · rename_i hc
      subst hc
      split at hn
      · cases hn
      · exact hn
    · exact h.1 id' o' e

theorem GlobOK.ext {C C' : Ctx} (h : GlobOK C) (e : Ext C C') : GlobOK C' := fun n cs hn => (h n cs hn).ext e
theorem HRep.none {C : Ctx} (h : HRep C) {id : Id} (ha : C.Av id) : hget C.H id = none := by
  cases e : hget C.H id with
  | none => rfl
  | some o => exact absurd ha (h.av id o e)

theorem Ext.less {C : Ctx} {H : Heap} {A : Id → Prop} (hH : ∀ id o, hget H id = some o → hget C.H id = some o) (hA : ∀ id, A id → C.Av id) : Ext C { C with H := H, Av := A } :=
  ⟨Nat.le_refl _, rfl, rfl, rfl, fun _ _ _ => rfl, fun _ _ _ _ => rfl, fun _ _ _ h => h.imp (fun h => h) fun ⟨id, o, e, r⟩ => ⟨id, o, hH _ _ e, r⟩, fun _ _ ⟨id, o, e, r⟩ => ⟨id, o, hH _ _ e, r⟩, hA, rfl, fun id o' _ e => ⟨o', hH _ _ e, rfl, Nat.le_refl _, fun _ => rfl⟩⟩

theorem HRep.less {C : Ctx} (h : HRep C) {H : Heap} {A : Id → Prop} (hn : HND H) (hH : ∀ id o, hget H id = some o → hget C.H id = some o) (hA : ∀ id, A id → C.Av id) : HRep { C with H := H, Av := A } := by
  have he := Ext.less (C := C) hH hA
  exact ⟨hn, fun id o e a => h.av id o (hH _ _ e) (hA _ a), fun id o e => (h.obj id o (hH _ _ e)).step rfl (fun _ _ => rfl) (fun _ _ r => r.ext he), fun id id' o o' g e e' => h.inj id id' o o' g (hH _ _ e) (hH _ _ e'), fun id o g off e => h.own id o g off (hH _ _ e), h.xlt, h.glob.ext he⟩

theorem Ext.drawn (C : Ctx) (d : Nat) : Ext C { C with w := { C.w with drawn := d } } :=
  ⟨Nat.le_refl _, rfl, rfl, rfl, fun _ _ _ => rfl, fun _ _ _ _ => rfl, fun _ _ _ h => h, fun _ _ h => h, fun _ h => h, rfl, fun _ o' _ h => ⟨o', h, rfl, Nat.le_refl _, fun _ => rfl⟩⟩
theorem HRep.drawn {C : Ctx} (h : HRep C) (d : Nat) : HRep { C with w := { C.w with drawn := d } } :=
  ⟨h.nd, h.av, fun id o e => (h.obj id o e).step rfl (fun _ _ => rfl) (fun _ _ r => r.ext (Ext.drawn C d)), h.inj, h.own, h.xlt, h.glob.ext (Ext.drawn C d)⟩

open Classical in
noncomputable def Ctx.put (C : Ctx) (H : Heap) (id : Id) (v : Value) (w : World) (A : Id → Prop) : Ctx := ⟨H, fun i => if i = id then v else C.φ i, w, A, C.X⟩

theorem put_self (C : Ctx) (H : Heap) (id : Id) (v : Value) (w : World) (A : Id → Prop) : (C.put H id v w A).φ id = v := by simp [Ctx.put]
theorem put_other (C : Ctx) (H : Heap) (id : Id) (v : Value) (w : World) (A : Id → Prop) {i : Id} (h : i ≠ id) : (C.put H id v w A).φ i = C.φ i := by simp [Ctx.put, h]

section
variable {C : Ctx} {id : Id} {o : AObj} {v : Value} {w : World} {A : Id → Prop}

theorem Ext.new (h : HRep C) (ha : C.Av id) (hA : ∀ i, A i → C.Av i) (hsz : C.w.heap.size ≤ w.heap.size) (hold : ∀ k, k < C.w.heap.size → w.heap[k]? = C.w.heap[k]?)
    (ht : w.tape = C.w.tape) (hos : w.os = C.w.os) (hout : w.output = C.w.output) (hb : ∀ g, blk v = some g → C.w.heap.size ≤ g) : Ext C (C.put (hadd C.H id o) id v w A) where
  size := hsz
  tape := ht
  os := hos
  output := hout
  block := fun k hk _ => hold k hk
  cell := fun k off hk _ => World.cell?_of_block (hold k hk)
  muts := fun k off hk h => h.imp (fun h => h) fun ⟨i, o', e, hb', hm⟩ => by
    have e' : hget (hadd C.H id o) i = some o' := e
    rw [hget_hadd] at e'
    by_cases hi : i = id
    · subst hi
      rw [put_self] at hb'
      have := hb k hb'
      omega
    · rw [if_neg (Ne.symm hi)] at e'
      rw [put_other _ _ _ _ _ _ hi] at hb'
      exact ⟨i, o', e', hb', hm⟩
  obl := fun k hk ⟨i, o', e, hb'⟩ => by
    have e' : hget (hadd C.H id o) i = some o' := e
    rw [hget_hadd] at e'
    by_cases hi : i = id
    · subst hi
      rw [put_self] at hb'
      have := hb k hb'
      omega
    · rw [if_neg (Ne.symm hi)] at e'
      rw [put_other _ _ _ _ _ _ hi] at hb'
      exact ⟨i, o', e', hb'⟩
  av := hA
  x := rfl
  old := fun i o' hna e => by
    have e' : hget (hadd C.H id o) i = some o' := e
    rw [hget_hadd] at e'
    by_cases hi : i = id
    · subst hi; exact absurd ha hna
    · rw [if_neg (Ne.symm hi)] at e'
      exact ⟨o', e', rfl, Nat.le_refl _, fun _ => put_other _ _ _ _ _ _ hi⟩

theorem obj_lt {C : Ctx} {i : Id} {o : AObj} (h : ObjRep C i o) {g : Nat} (hg : blk (C.φ i) = some g) : g < C.w.heap.size := by
  cases o with
  | row wr fl e sz rows =>
    obtain ⟨_, _, _, xs, h3, _⟩ := h
    rcases h3.2 with ⟨h2, _⟩ | ⟨g', cap, cur, hv, _, hh, _⟩
    · rw [h2] at hg; cases hg
    · rw [hv] at hg
      have : g' = g := by simpa [blk] using hg
      subst this
      exact (Array.getElem?_eq_some_iff.1 hh).1
  | box cells =>
    obtain ⟨_, g', cs, e, h1, h2, _⟩ := h
    rw [h1] at hg
    have : g' = g := by simpa [blk] using hg
    subst this
    exact (Array.getElem?_eq_some_iff.1 h2).1
  | map es =>
    obtain ⟨g', ents, clock, h1, h2, _⟩ := h
    rw [h1] at hg
    have : g' = g := by simpa [blk] using hg
    subst this
    exact (Array.getElem?_eq_some_iff.1 h2).1

theorem HRep.new (h : HRep C) (ha : C.Av id) (hA : ∀ i, A i → C.Av i) (hid : ¬ A id) (hsz : C.w.heap.size ≤ w.heap.size) (hold : ∀ k, k < C.w.heap.size → w.heap[k]? = C.w.heap[k]?)
    (ht : w.tape = C.w.tape) (hos : w.os = C.w.os) (hout : w.output = C.w.output) (hb : ∀ g, blk v = some g → C.w.heap.size ≤ g)
    (ho : Ext C (C.put (hadd C.H id o) id v w A) → ObjRep (C.put (hadd C.H id o) id v w A) id o) : HRep (C.put (hadd C.H id o) id v w A) := by
  have he := Ext.new (o := o) (v := v) h ha hA hsz hold ht hos hout hb
  have hg : ∀ i, hget (C.put (hadd C.H id o) id v w A).H i = if id = i then some o else hget C.H i := fun i => hget_hadd _ _ _ _
  refine ⟨h.nd.hadd _ _ (h.none ha), fun i o' e a => ?_, fun i o' e => ?_, fun i i' o1 o2 g e1 e2 b1 b2 => ?_, fun i o1 g off e1 b1 => ?_, fun g off hx => Nat.lt_of_lt_of_le (h.xlt g off hx) hsz, h.glob.ext he⟩
  · rw [hg] at e
    split at e
    · rename_i hc; subst hc; exact hid a
    · exact h.av i o' e (hA i a)
  · rw [hg] at e
    split at e
    · rename_i hc
      subst hc
      injection e with e
      subst e
      exact ho he
    · rename_i hc
      refine (h.obj i o' e).step (put_other _ _ _ _ _ _ (Ne.symm hc)) (fun g hg' => ?_) (fun _ _ r => r.ext he)
      exact hold g (obj_lt (h.obj i o' e) hg')
  · rw [hg] at e1 e2
    split at e1 <;> split at e2
    · rename_i c1 c2; rw [← c1, ← c2]
    · rename_i c1 c2
      subst c1
      rw [put_self] at b1
      rw [put_other _ _ _ _ _ _ (Ne.symm c2)] at b2
      have := hb g b1
      have := obj_lt (h.obj i' o2 e2) b2
      omega
    · rename_i c1 c2
      subst c2
      rw [put_self] at b2
      rw [put_other _ _ _ _ _ _ (Ne.symm c1)] at b1
      have := hb g b2
      have := obj_lt (h.obj i o1 e1) b1
      omega
    · rename_i c1 c2
      rw [put_other _ _ _ _ _ _ (Ne.symm c1)] at b1
      rw [put_other _ _ _ _ _ _ (Ne.symm c2)] at b2
      exact h.inj i i' o1 o2 g e1 e2 b1 b2
  · rw [hg] at e1
    split at e1
    · rename_i c1
      subst c1
      rw [put_self] at b1
      intro hx
      have := hb g b1
      have := h.xlt g off hx
      omega
    · rename_i c1
      rw [put_other _ _ _ _ _ _ (Ne.symm c1)] at b1
      exact h.own i o1 g off e1 b1
end

section
variable {C : Ctx} {id : Id} {o o' : AObj} {v : Value} {w : World}

structure SetOk (C : Ctx) (id : Id) (o o' : AObj) (v : Value) (w : World) : Prop where
  at_ : hget C.H id = some o
  kind : okind o' = okind o
  size_ : asize o ≤ asize o'
  hdr : asize o = asize o' → v = C.φ id
  size : C.w.heap.size ≤ w.heap.size
  tape : w.tape = C.w.tape
  os : w.os = C.w.os
  output : w.output = C.w.output
  other : ∀ k, k < C.w.heap.size → some k ≠ blk (C.φ id) → w.heap[k]? = C.w.heap[k]?
  cell : ∀ g off, blk (C.φ id) = some g → ¬ mutAt o off → w.cell? ⟨g, off, none⟩ = C.w.cell? ⟨g, off, none⟩
  place : (blk v = blk (C.φ id) ∧ ∀ off, mutAt o' off → mutAt o off) ∨ ∀ g, blk v = some g → C.w.heap.size ≤ g

theorem hset_some (h : hget C.H id = some o) (i : Id) : hget (hset C.H id o') i = if id = i then some o' else hget C.H i := by
  rw [hget_hset]
  by_cases hi : id = i
  · subst hi; simp [h]
  · simp [hi]

theorem Ext.set (s : SetOk C id o o' v w) : Ext C (C.put (hset C.H id o') id v w C.Av) where
  size := s.size
  tape := s.tape
  os := s.os
  output := s.output
  block := fun k hk ho => s.other k hk fun e => ho ⟨id, o, s.at_, e.symm⟩
  cell := fun k off hk hm => by
    by_cases e : some k = blk (C.φ id)
    · exact s.cell k off e.symm fun h => hm (.inr ⟨id, o, s.at_, e.symm, h⟩)
    · exact World.cell?_of_block (s.other k hk e)
  muts := fun k off hk h => h.imp (fun h => h) fun ⟨i, o2, e, hb, hm⟩ => by
    have e' : hget (hset C.H id o') i = some o2 := e
    rw [hset_some s.at_] at e'
    by_cases hi : i = id
    · subst hi
      rw [if_pos rfl] at e'
      injection e' with e'
      subst e'
      rw [put_self] at hb
      rcases s.place with ⟨p1, p2⟩ | p
      · exact ⟨i, o, s.at_, p1 ▸ hb, p2 _ hm⟩
      · have := p k hb; omega
    · rw [if_neg (Ne.symm hi)] at e'
      rw [put_other _ _ _ _ _ _ hi] at hb
      exact ⟨i, o2, e', hb, hm⟩
  obl := fun k hk ⟨i, o2, e, hb⟩ => by
    have e' : hget (hset C.H id o') i = some o2 := e
    rw [hset_some s.at_] at e'
    by_cases hi : i = id
    · subst hi
      rw [put_self] at hb
      rcases s.place with ⟨p1, p2⟩ | p
      · exact ⟨i, o, s.at_, p1 ▸ hb⟩
      · have := p k hb; omega
    · rw [if_neg (Ne.symm hi)] at e'
      rw [put_other _ _ _ _ _ _ hi] at hb
      exact ⟨i, o2, e', hb⟩
  av := fun _ h => h
  x := rfl
  old := fun i o2 hna e => by
    have e' : hget (hset C.H id o') i = some o2 := e
    rw [hset_some s.at_] at e'
    by_cases hi : i = id
    · subst hi
      rw [if_pos rfl] at e'
      injection e' with e'
      subst e'
      exact ⟨o, s.at_, s.kind, s.size_, fun h => (put_self _ _ _ _ _ _).trans (s.hdr h)⟩
    · rw [if_neg (Ne.symm hi)] at e'
      exact ⟨o2, e', rfl, Nat.le_refl _, fun _ => put_other _ _ _ _ _ _ hi⟩

theorem HRep.set (h : HRep C) (s : SetOk C id o o' v w) (ho : Ext C (C.put (hset C.H id o') id v w C.Av) → ObjRep (C.put (hset C.H id o') id v w C.Av) id o') : HRep (C.put (hset C.H id o') id v w C.Av) := by
  have he := Ext.set s
  have hg : ∀ i, hget (C.put (hset C.H id o') id v w C.Av).H i = if id = i then some o' else hget C.H i := fun i => hset_some s.at_ i
  have hclash : ∀ i g, i ≠ id → (∃ o2, hget C.H i = some o2) → blk (C.φ i) = some g → blk v = some g → False := by
    intro i g hi ⟨o2, e2⟩ b1 b2
    rcases s.place with ⟨p1, _⟩ | p
    · exact hi (h.inj i id o2 o g e2 s.at_ b1 (p1 ▸ b2))
    · have := p g b2
      have := obj_lt (h.obj i o2 e2) b1
      omega
  refine ⟨h.nd.hset _ _, fun i o2 e a => ?_, fun i o2 e => ?_, fun i i' o1 o2 g e1 e2 b1 b2 => ?_, fun i o1 g off e1 b1 => ?_, fun g off hx => Nat.lt_of_lt_of_le (h.xlt g off hx) s.size, h.glob.ext he⟩
  · rw [hg] at e
    split at e
    · rename_i hc; subst hc; exact h.av id o s.at_ a
    · exact h.av i o2 e a
  · rw [hg] at e
    split at e
    · rename_i hc
      subst hc
      injection e with e
      subst e
      exact ho he
    · rename_i hc
      refine (h.obj i o2 e).step (put_other _ _ _ _ _ _ (Ne.symm hc)) (fun g hg' => ?_) (fun _ _ r => r.ext he)
      refine s.other g (obj_lt (h.obj i o2 e) hg') fun e' => hc ?_
      exact (h.inj i id o2 o g e s.at_ hg' e'.symm).symm
  · rw [hg] at e1 e2
    split at e1 <;> split at e2
    · rename_i c1 c2; rw [← c1, ← c2]
    · rename_i c1 c2
      subst c1
      rw [put_self] at b1
      rw [put_other _ _ _ _ _ _ (Ne.symm c2)] at b2
      exact (hclash i' g (Ne.symm c2) ⟨_, e2⟩ b2 b1).elim
    · rename_i c1 c2
      subst c2
      rw [put_self] at b2
      rw [put_other _ _ _ _ _ _ (Ne.symm c1)] at b1
      exact (hclash i g (Ne.symm c1) ⟨_, e1⟩ b1 b2).elim
    · rename_i c1 c2
      rw [put_other _ _ _ _ _ _ (Ne.symm c1)] at b1
      rw [put_other _ _ _ _ _ _ (Ne.symm c2)] at b2
      exact h.inj i i' o1 o2 g e1 e2 b1 b2
  · rw [hg] at e1
    split at e1
    · rename_i c1
      subst c1
      rw [put_self] at b1
      intro hx
      rcases s.place with ⟨p1, _⟩ | p
      · exact h.own id o g off s.at_ (p1 ▸ b1) hx
      · have := p g b1
        have := h.xlt g off hx
        omega
    · rename_i c1
      rw [put_other _ _ _ _ _ _ (Ne.symm c1)] at b1
      exact h.own i o1 g off e1 b1
end

end Go.Proofs.Abs

namespace Go.Proofs.Abs
open Go
variable [Globs]

def constOK1 : Value → AV → Bool
  | .bool b, .bool b' => b == b'
  | .int k n, .int k' n' => decide (k = k') && n == n'
  | .string s, .str s' => decide (s = s')
  | .slice none 0 0, .nils => true
  | .slice none 0 0, .list sz [] => decide (0 < sz)
  | .pointer none, .nilp => true
  | .nilIface, .nili => true
  | .nilFunc, .nilf => true
  | .map none, .nilm => true
  | _, _ => false
def constCells : List Value → List AV → Bool
  | [], [] => true
  | v :: vs, x :: xs => constOK1 v x && constCells vs xs
  | _, _ => false
def constOK : Value → AV → Bool
  | .agg cs, .agg l => constCells cs.toList l
  | v, x => constOK1 v x
def atomEq : AV → AV → Bool
  | .int k n, .int k' n' => decide (k = k') && n == n'
  | .bool b, .bool b' => b == b'
  | .str s, .str s' => decide (s = s')
  | _, _ => false
def atomsEq : List AV → List AV → Bool
  | [], [] => true
  | x :: r, y :: s => atomEq x y && atomsEq r s
  | _, _ => false
theorem atomEq_eq {x y : AV} (h : atomEq x y = true) : x = y := by
  unfold atomEq at h
  split at h
  · simp only [Bool.and_eq_true, decide_eq_true_eq, beq_iff_eq] at h; rw [h.1, h.2]
  · simp only [beq_iff_eq] at h; rw [h]
  · simp only [decide_eq_true_eq] at h; rw [h]
  · cases h
theorem atomsEq_eq : ∀ {l m : List AV}, atomsEq l m = true → l = m
  | [], [], _ => rfl
  | [], y :: s, h => by simp [atomsEq] at h
  | x :: r, [], h => by simp [atomsEq] at h
  | x :: r, y :: s, h => by
    simp only [atomsEq, Bool.and_eq_true] at h
    rw [atomEq_eq h.1, atomsEq_eq h.2]
def opdOK : Operand → AX → Bool
  | .tmp t, .t i => t == i
  | .const v, .k x => constOK v x
  | .func f, .k (.func g []) => f == g
  | .global n, .k (.rp cs) => match Globs.tab n with
    | some l => atomsEq l cs
    | none => false
  | _, _ => false
def opdOKo : Option Operand → Option AX → Bool
  | none, none => true
  | some x, some y => opdOK x y
  | _, _ => false
def opdsOK : List Operand → List AX → Bool
  | [], [] => true
  | x :: xs, y :: ys => opdOK x y && opdsOK xs ys
  | _, _ => false

theorem rep_const1 (C : Ctx) {v : Value} {x : AV} (h : constOK1 v x = true) : Rep C x v ∧ isCell x = true := by
  unfold constOK1 at h
  split at h
  · simp only [beq_iff_eq] at h; subst h; exact ⟨.bool _, rfl⟩
  · simp only [Bool.and_eq_true, decide_eq_true_eq, beq_iff_eq] at h
    obtain ⟨rfl, rfl⟩ := h
    exact ⟨.int _ _, rfl⟩
  · simp only [decide_eq_true_eq] at h; subst h; exact ⟨.str _, rfl⟩
  · exact ⟨.nils, rfl⟩
  · exact ⟨.list _ [] none 0 (fun _ => undef) (of_decide_eq_true h) (Nat.le_refl _) (fun _ => rfl) (by simp) (by simp) (by simp) (by simp), rfl⟩
  · exact ⟨.nilp, rfl⟩
  · exact ⟨.nili, rfl⟩
  · exact ⟨.nilf, rfl⟩
  · exact ⟨.nilm, rfl⟩
  · cases h

theorem rep_constCells (C : Ctx) : ∀ {vs : List Value} {xs : List AV}, constCells vs xs = true → RepL C xs vs ∧ Cells xs
  | [], [], _ => ⟨⟨rfl, by simp⟩, by intro j av; simp⟩
  | v :: vs, x :: xs, h => by
    simp only [constCells, Bool.and_eq_true] at h
    obtain ⟨h1, h2⟩ := rep_const1 C h.1
    obtain ⟨h3, h4⟩ := rep_constCells C h.2
    refine ⟨⟨by simp [h3.1], fun j av v' e e' => ?_⟩, fun j av e => ?_⟩
    · cases j with
      | zero => simp at e e'; subst e; subst e'; exact h1
      | succ j => simp at e e'; exact h3.2 j _ _ e e'
    · cases j with
      | zero => simp at e; subst e; exact h2
      | succ j => simp at e; exact h4 j _ e
  | [], _ :: _, h => by simp [constCells] at h
  | _ :: _, [], h => by simp [constCells] at h

theorem rep_const (C : Ctx) {v : Value} {x : AV} (h : constOK v x = true) : Rep C x v := by
  unfold constOK at h
  split at h
  · rename_i cs l
    obtain ⟨h1, h2⟩ := rep_constCells C h
    have := Rep.agg (C := C) l cs.toList h1.1 h2 h1.2
    simpa using this
  · exact (rep_const1 C h).1

structure SimE (D : List Deferred) (nt : Nat) (env : Env) (C : Ctx) (a : Act) : Prop where
  size : a.tmps.size = nt
  defers : a.defers = D
  env : ∀ i, Rep C (eget env i) (a.tmps.getD i undef)
  glob : GlobOK C

theorem SimE.ext {D : List Deferred} {nt : Nat} {env : Env} {C C' : Ctx} {a : Act} (h : SimE D nt env C a) (e : Ext C C') : SimE D nt env C' a := ⟨h.size, h.defers, fun i => (h.env i).ext e, h.glob.ext e⟩

theorem rep_opd {D : List Deferred} {nt : Nat} {env : Env} {C : Ctx} {a : Act} (h : SimE D nt env C a) {x : Operand} {y : AX} (hx : opdOK x y = true) : Rep C (y.ev env) (a.eval x) := by
  unfold opdOK at hx
  split at hx
  · simp only [beq_iff_eq] at hx; subst hx; exact h.env _
  · exact rep_const C hx
  · simp only [beq_iff_eq] at hx; subst hx
    exact Rep.func _ [] [] rfl (by simp)
  · split at hx
    · rename_i l hl
      rw [← atomsEq_eq hx]
      exact h.glob _ _ hl
    · cases hx
  · cases hx

section
variable {C : Ctx} {v : Value}
theorem Rep.bool_inv {b : Bool} (h : Rep C (.bool b) v) : v = .bool b := by cases h; rfl
theorem Rep.int_inv {k : IntKind} {n : Int} (h : Rep C (.int k n) v) : v = .int k n := by cases h; rfl
theorem Rep.str_inv {s : ByteArray} (h : Rep C (.str s) v) : v = .string s := by cases h; rfl
theorem Rep.agg_inv {cs : List AV} (h : Rep C (.agg cs) v) : ∃ vs : List Value, v = .agg vs.toArray ∧ RepL C cs vs ∧ Cells cs := by
  cases h with
  | agg _ vs hl hc hv => exact ⟨vs, rfl, ⟨hl, hv⟩, hc⟩
theorem Rep.tuple_inv {cs : List AV} (h : Rep C (.tuple cs) v) : ∃ vs : List Value, v = .tuple vs.toArray ∧ RepL C cs vs := by
  cases h with
  | tuple _ vs hl hv => exact ⟨vs, rfl, hl, hv⟩
theorem Rep.func_inv {f : Nat} {cs : List AV} (h : Rep C (.func f cs) v) : ∃ vs : List Value, v = .func (.func f) #[] vs.toArray ∧ RepL C cs vs := by
  cases h with
  | func _ _ vs hl hv => exact ⟨vs, rfl, hl, hv⟩

theorem Rep.cell {av : AV} (h : Rep C av v) (hc : isCell av = true) : v.oneCell' = true ∧ v.cells = #[v] := by
  cases h with
  | undef => cases hc
  | agg => cases hc
  | tuple => cases hc
  | tl => cases hc
  | own id n v ha hs ho => obtain ⟨a, l, c, rfl⟩ := hs; exact ⟨rfl, rfl⟩
  | ref id n i j v ha hs ho => obtain ⟨a, rfl⟩ := hs; exact ⟨rfl, rfl⟩
  | map id v ha hs ho => obtain ⟨a, rfl⟩ := hs; exact ⟨rfl, rfl⟩
  | _ => exact ⟨rfl, rfl⟩

theorem RepL.nil : RepL C [] [] := ⟨rfl, by simp⟩
theorem RepL.cons {x : AV} {xs : List AV} {vs : List Value} (h : Rep C x v) (h2 : RepL C xs vs) : RepL C (x :: xs) (v :: vs) := by
  refine ⟨by simp [h2.1], fun j av v' e e' => ?_⟩
  cases j with
  | zero => simp at e e'; subst e; subst e'; exact h
  | succ j => simp at e e'; exact h2.2 j _ _ e e'
theorem Cells.nil : Cells [] := by intro j av; simp
theorem Cells.cons {x : AV} {xs : List AV} (h : isCell x = true) (h2 : Cells xs) : Cells (x :: xs) := by
  intro j av e
  cases j with
  | zero => simp at e; subst e; exact h
  | succ j => simp at e; exact h2 j _ e
theorem Cells.mem {xs : List AV} (h : Cells xs) {x : AV} (hx : x ∈ xs) : isCell x = true := by
  obtain ⟨j, hj, e⟩ := List.getElem_of_mem hx
  exact h j x (by rw [List.getElem?_eq_getElem hj, e])
theorem RepL.app {xs ys : List AV} {vs us : List Value} (h : RepL C xs vs) (h2 : RepL C ys us) : RepL C (xs ++ ys) (vs ++ us) := by
  refine ⟨by simp [h.1, h2.1], fun j av v' e e' => ?_⟩
  by_cases hj : j < xs.length
  · rw [List.getElem?_append_left hj] at e
    rw [List.getElem?_append_left (by rw [← h.1]; exact hj)] at e'
    exact h.2 j _ _ e e'
  · rw [List.getElem?_append_right (by omega)] at e
    rw [List.getElem?_append_right (by rw [← h.1]; omega), ← h.1] at e'
    exact h2.2 _ _ _ e e'
theorem Cells.app {xs ys : List AV} (h : Cells xs) (h2 : Cells ys) : Cells (xs ++ ys) := by
  intro j av e
  by_cases hj : j < xs.length
  · rw [List.getElem?_append_left hj] at e; exact h j _ e
  · rw [List.getElem?_append_right (by omega)] at e; exact h2 _ _ e
theorem RepL.take {xs : List AV} {vs : List Value} (h : RepL C xs vs) (n : Nat) : RepL C (xs.take n) (vs.take n) := by
  refine ⟨by simp [h.1], fun j av v' e e' => ?_⟩
  rw [List.getElem?_take] at e e'
  split at e
  · rename_i hj; rw [if_pos hj] at e'; exact h.2 j _ _ e e'
  · cases e
theorem RepL.drop {xs : List AV} {vs : List Value} (h : RepL C xs vs) (n : Nat) : RepL C (xs.drop n) (vs.drop n) := by
  refine ⟨by simp [h.1], fun j av v' e e' => ?_⟩
  rw [List.getElem?_drop] at e e'
  exact h.2 _ _ _ e e'
theorem Cells.take {xs : List AV} (h : Cells xs) (n : Nat) : Cells (xs.take n) := by
  intro j av e
  rw [List.getElem?_take] at e
  split at e
  · exact h j _ e
  · cases e
theorem Cells.drop {xs : List AV} (h : Cells xs) (n : Nat) : Cells (xs.drop n) := by
  intro j av e
  rw [List.getElem?_drop] at e
  exact h _ _ e

theorem cellsOf_rep {av : AV} (h : Rep C av v) {cs : List AV} (hc : cellsOf av = some cs) : RepL C cs v.cells.toList ∧ Cells cs := by
  by_cases hk : isCell av = true
  · have hcs : cs = [av] := by
      cases av <;> simp_all [cellsOf, isCell]
    subst hcs
    rw [(h.cell hk).2]
    exact ⟨.cons h .nil, .cons hk .nil⟩
  · cases h with
    | agg cs' vs hl hc' hv =>
      simp only [cellsOf, Option.some.injEq] at hc
      subst hc
      exact ⟨⟨hl, hv⟩, hc'⟩
    | undef => simp [cellsOf] at hc
    | tuple => simp [cellsOf] at hc
    | tl => simp [cellsOf] at hc
    | _ => simp [isCell] at hk

theorem ofCells_rep {agg : Bool} {cs : List AV} {vs : List Value} {av : AV} (h : RepL C cs vs) (hc : Cells cs) (ho : ofCells agg cs = some av) : (agg = true ∧ Rep C av (.agg vs.toArray)) ∨ (agg = false ∧ ∃ u, vs = [u] ∧ Rep C av u) := by
  unfold ofCells at ho
  cases agg with
  | true =>
    simp only [if_true, Option.some.injEq] at ho
    subst ho
    exact .inl ⟨rfl, .agg cs vs h.1 hc h.2⟩
  | false =>
    simp only [Bool.false_eq_true, if_false] at ho
    split at ho
    · rename_i v'
      injection ho with ho
      subst ho
      have hl : vs.length = 1 := by have := h.1; simp at this; omega
      obtain ⟨u, rfl⟩ := List.length_eq_one_iff.1 hl
      exact .inr ⟨rfl, u, rfl, h.2 0 _ _ rfl rfl⟩
    · cases ho
end

def sizeIs (P : Program) (t m : Nat) : Bool := match P.info? t with
  | some i => i.size == m
  | none => false
def bytesIs (P : Program) (t m : Nat) : Bool := match P.info? t with
  | some i => i.bytes == m
  | none => false
def aggIs (P : Program) (t : Nat) (b : Bool) : Bool := match P.underlying t with
  | some (.struct _) | some (.array _ _) => b
  | some _ => !b
  | none => false
def zeroIs (P : Program) (t : Nat) (l : List AV) : Bool := match P.info? t with
  | some i => match i.zero with
    | some z => constCells z.cells.toList l
    | none => false
  | none => false
def sliceIs (P : Program) (t e : Nat) : Bool := match P.underlying t with
  | some (.slice e') => e' == e
  | _ => false

theorem sizeIs_iff {P : Program} {t m : Nat} (h : sizeIs P t m = true) : ∃ i, P.info? t = some i ∧ i.size = m := by
  unfold sizeIs at h
  split at h
  · rename_i i e; exact ⟨i, e, by simpa using h⟩
  · cases h
theorem bytesIs_iff {P : Program} {t m : Nat} (h : bytesIs P t m = true) : ∃ i, P.info? t = some i ∧ i.bytes = m := by
  unfold bytesIs at h
  split at h
  · rename_i i e; exact ⟨i, e, by simpa using h⟩
  · cases h
theorem zeroIs_iff {P : Program} {t : Nat} {l : List AV} (h : zeroIs P t l = true) : ∃ i z, P.info? t = some i ∧ i.zero = some z ∧ constCells z.cells.toList l = true := by
  unfold zeroIs at h
  split at h
  · rename_i i e
    split at h
    · rename_i z e2; exact ⟨i, z, e, e2, h⟩
    · cases h
  · cases h
theorem sliceIs_iff {P : Program} {t e : Nat} (h : sliceIs P t e = true) : P.underlying t = some (.slice e) := by
  unfold sliceIs at h
  split at h
  · rename_i e' h'; simp at h; subst h; exact h'
  · cases h
theorem run_isAgg {P : Program} {t : Nat} {b : Bool} (h : aggIs P t b = true) (w : World) : (isAgg t).run P w = .ok b w := by
  unfold aggIs at h
  split at h
  · rename_i fs e; subst h; simp [isAgg, run_underlying e]
  · rename_i n e' e; subst h; simp [isAgg, run_underlying e]
  · rename_i d h1 h2 e
    simp at h; subst h
    simp only [isAgg, Sem.run_bind, run_underlying e, Result.andThen_ok]
    rfl
  · cases h
theorem run_sizeOf' {P : Program} {t m : Nat} (h : sizeIs P t m = true) (w : World) : (sizeOf t).run P w = .ok m w := by
  obtain ⟨i, e, rfl⟩ := sizeIs_iff h
  simp [sizeOf, typeInfo, e]
theorem run_zeroValue' {P : Program} {t : Nat} {i : TypeInfo} {z : Value} (h : P.info? t = some i) (hz : i.zero = some z) (w : World) : (zeroValue t).run P w = .ok z w := by
  simp [zeroValue, typeInfo, h, hz]

end Go.Proofs.Abs

namespace Go.Proofs.Abs
open Go
variable [Globs]

def flg (o o' : AObj) : Prop := o' = o ∨ ∃ wr fl e sz rows, o = .row wr fl e sz rows ∧ o' = .row false fl e sz rows
structure FlagLe (H H' : Heap) : Prop where
  down : ∀ i o', hget H' i = some o' → ∃ o, hget H i = some o ∧ flg o o'
  up : ∀ i o, hget H i = some o → ∃ o', hget H' i = some o' ∧ flg o o'
  nd : HND H → HND H'

theorem flg.refl (o : AObj) : flg o o := .inl rfl
theorem flg.trans {a b c : AObj} (h : flg a b) (k : flg b c) : flg a c := by
  rcases h with rfl | ⟨wr, fl, e, sz, rows, rfl, rfl⟩
  · exact k
  · rcases k with rfl | ⟨wr', fl', e', sz', rows', h, rfl⟩
    · exact .inr ⟨_, _, _, _, _, rfl, rfl⟩
    · injection h with h1 h2 h3 h4 h5
      subst h2; subst h3; subst h4; subst h5
      exact .inr ⟨_, _, _, _, _, rfl, rfl⟩
theorem flg.kind {o o' : AObj} (h : flg o o') : okind o' = okind o ∧ asize o' = asize o := by
  rcases h with rfl | ⟨wr, fl, e, sz, rows, rfl, rfl⟩ <;> exact ⟨rfl, rfl⟩
theorem flg.mut {o o' : AObj} (h : flg o o') {off : Nat} (hm : mutAt o' off) : mutAt o off := by
  rcases h with rfl | ⟨wr, fl, e, sz, rows, rfl, rfl⟩
  · exact hm
  · simp only [mutAt, Bool.false_eq_true, false_or] at hm ⊢
    exact .inr hm
theorem FlagLe.refl (H : Heap) : FlagLe H H := ⟨fun i o h => ⟨o, h, .refl _⟩, fun i o h => ⟨o, h, .refl _⟩, id⟩
theorem FlagLe.trans {A B C : Heap} (h : FlagLe A B) (k : FlagLe B C) : FlagLe A C :=
  ⟨fun i o e => by
    obtain ⟨o1, e1, f1⟩ := k.down i o e
    obtain ⟨o2, e2, f2⟩ := h.down i o1 e1
    exact ⟨o2, e2, f2.trans f1⟩,
   fun i o e => by
    obtain ⟨o1, e1, f1⟩ := h.up i o e
    obtain ⟨o2, e2, f2⟩ := k.up i o1 e1
    exact ⟨o2, e2, f1.trans f2⟩, fun hn => k.nd (h.nd hn)⟩

theorem FlagLe.set {H : Heap} {id : Id} {wr fl : Bool} {e sz : Nat} {rows : List (List AV)} (h : hget H id = some (.row wr fl e sz rows)) : FlagLe H (hset H id (.row false fl e sz rows)) := by
  have hg : ∀ i, hget (hset H id (.row false fl e sz rows)) i = if id = i then some (.row false fl e sz rows) else hget H i := by
    intro i
    rw [hget_hset]
    by_cases hi : id = i
    · subst hi; simp [h]
    · simp [hi]
  refine ⟨fun i o' e' => ?_, fun i o e' => ?_, fun hn => hn.hset _ _⟩
  · rw [hg] at e'
    split at e'
    · rename_i hc; subst hc
      injection e' with e'
      subst e'
      exact ⟨_, h, .inr ⟨_, _, _, _, _, rfl, rfl⟩⟩
    · exact ⟨o', e', .refl _⟩
  · rw [hg]
    split
    · rename_i hc; subst hc
      rw [h] at e'
      injection e' with e'
      subst e'
      exact ⟨_, rfl, .inr ⟨_, _, _, _, _, rfl, rfl⟩⟩
    · exact ⟨o, e', .refl _⟩

theorem FlagLe.ext {C : Ctx} {H : Heap} (h : FlagLe C.H H) : Ext C { C with H := H } where
  size := Nat.le_refl _
  tape := rfl
  os := rfl
  output := rfl
  block := fun _ _ _ => rfl
  cell := fun _ _ _ _ => rfl
  muts := fun k off hk hx => hx.imp (fun h => h) fun ⟨i, o', e, hb, hm⟩ => by
    obtain ⟨o, e', f⟩ := h.down i o' e
    exact ⟨i, o, e', hb, f.mut hm⟩
  obl := fun k hk ⟨i, o', e, hb⟩ => by
    obtain ⟨o, e', f⟩ := h.down i o' e
    exact ⟨i, o, e', hb⟩
  av := fun _ h => h
  x := rfl
  old := fun i o' _ e => by
    obtain ⟨o, e', f⟩ := h.down i o' e
    exact ⟨o, e', f.kind.1, by rw [f.kind.2]; exact Nat.le_refl _, fun _ => rfl⟩

theorem FlagLe.hrep {C : Ctx} {H : Heap} (h : FlagLe C.H H) (hr : HRep C) : HRep { C with H := H } where
  nd := h.nd hr.nd
  av := fun i o' e a => by
    obtain ⟨o, e', f⟩ := h.down i o' e
    exact hr.av i o e' a
  obj := fun i o' e => by
    obtain ⟨o, e', f⟩ := h.down i o' e
    have := (hr.obj i o e').step (C' := { C with H := H }) rfl (fun _ _ => rfl) (fun _ _ r => r.ext h.ext)
    rcases f with rfl | ⟨wr, fl, el, sz, rows, rfl, rfl⟩
    · exact this
    · exact this
  inj := fun i i' o o' g e e' b b' => by
    obtain ⟨o1, e1, _⟩ := h.down i o e
    obtain ⟨o2, e2, _⟩ := h.down i' o' e'
    exact hr.inj i i' o1 o2 g e1 e2 b b'
  own := fun i o g off e b => by
    obtain ⟨o1, e1, _⟩ := h.down i o e
    exact hr.own i o1 g off e1 b
  xlt := hr.xlt
  glob := hr.glob.ext h.ext

theorem ownsRow_unique {w : World} {e sz n : Nat} {v : Value} {xs ys : List Value} (h : w.ownsRow 0 e sz v n xs) (k : w.ownsRow 0 e sz v n ys) : xs = ys := by
  rcases h.2 with ⟨h1, h2⟩ | ⟨g, cap, cur, hv, _, hh, _, _, _, ht⟩
  · subst h2
    have e1 : xs = [] := List.eq_nil_of_length_eq_zero (by simpa using h.1)
    have e2 : ys = [] := List.eq_nil_of_length_eq_zero (by simpa using k.1)
    rw [e1, e2]
  · rcases k.2 with ⟨k1, _⟩ | ⟨g', cap', cur', kv, _, kh, _, _, _, kt⟩
    · rw [hv] at k1; cases k1
    · rw [hv] at kv
      injection kv with kv
      injection kv with kv
      injection kv with kv
      subst kv
      rw [hh] at kh
      injection kh with kh
      injection kh with kh
      subst kh
      rw [← ht, ← kt]

theorem rep_list_of_row {C : Ctx} (hr : HRep C) {id : Id} {fl : Bool} {e sz : Nat} {rows rows' : List (List AV)} (h : hget C.H id = some (.row false fl e sz rows))
    (hlen : rows'.length = rows.length) (hrow : ∀ r ∈ rows', r.length = sz) (hcell : Cells rows'.flatten) (hrep : ∀ xs, C.w.ownsRow 0 e sz (C.φ id) rows.length xs → RepL C rows.flatten xs → RepL C rows'.flatten xs) : Rep C (.list sz rows') (C.φ id) := by
  obtain ⟨h0, h1, h2, xs, h3, h4⟩ := hr.obj id _ h
  have h4' := hrep xs h3 h4
  have hfl : rows'.flatten.length = rows.length * sz := by rw [h4'.1]; exact h3.1
  rcases h3.2 with ⟨hv, hn⟩ | ⟨g, cap, cur, hv, _, hh, hnc, _, hcs, htake⟩
  · have hr0 : rows' = [] := List.eq_nil_of_length_eq_zero (by omega)
    subst hr0
    rw [hv]
    exact .list sz [] none 0 (fun _ => undef) h0 (Nat.le_refl _) (fun _ => rfl) (by simp) (by simp) (by simp) (by simp)
  · rw [hv, ← hlen]
    refine .list sz rows' (some ⟨g, 0, none⟩) cap (fun j => xs.getD j undef) h0 (by omega) (by simp) hrow (fun _ => ⟨_, rfl, rfl⟩) (fun j av ej => ⟨hcell j av ej, fun ad ea => ?_⟩) (fun j av ej => ?_)
    · injection ea with ea
      subst ea
      have hj : j < rows'.flatten.length := (List.getElem?_eq_some_iff.1 ej).1
      have hx : xs[j]? = some (xs.getD j undef) := by
        have : j < xs.length := by rw [← h4'.1]; exact hj
        simp [List.getD, List.getElem?_eq_getElem this]
      refine ⟨?_, ?_⟩
      · have hc : cur[j]? = some (xs.getD j undef) := by
          rw [← htake, List.getElem?_take, if_pos (by rw [h4'.1, h3.1] at hj; exact hj)] at hx
          rw [Array.getElem?_toList] at hx
          rw [hx, ← htake]
        simp only [World.cell?, hh]
        simpa using hc
      · have hb2 : blk (C.φ id) = some g := by rw [hv]; rfl
        rintro (hx | ⟨i, o', ei, hb, hm⟩)
        · exact hr.own id _ g _ h hb2 hx
        have := hr.inj i id o' _ g ei h hb hb2
        subst this
        rw [h] at ei
        injection ei with ei
        subst ei
        simp only [mutAt, Bool.false_eq_true, false_or] at hm
        rw [hfl] at hj
        simp at hm
        omega
    · have hj : j < rows'.flatten.length := (List.getElem?_eq_some_iff.1 ej).1
      have hx : xs[j]? = some (xs.getD j undef) := by
        have : j < xs.length := by rw [← h4'.1]; exact hj
        simp [List.getD, List.getElem?_eq_getElem this]
      exact h4'.2 j _ _ ej hx

def FzOK (f : Heap → AV → Option (AV × Heap)) : Prop := ∀ H v v' H', f H v = some (v', H') → FlagLe H H' ∧ (isCell v = true → isCell v' = true) ∧
  ∀ C u, C.H = H → HRep C → Rep C v u → Rep { C with H := H' } v' u

theorem fzcells_ok {f : Heap → AV → Option (AV × Heap)} (hf : FzOK f) : ∀ (cs : List AV) (H : Heap) (cs' : List AV) (H' : Heap), fzd.fzcells f H cs = some (cs', H') →
    FlagLe H H' ∧ cs'.length = cs.length ∧ (Cells cs → Cells cs') ∧ ∀ C vs, C.H = H → HRep C → RepL C cs vs → RepL { C with H := H' } cs' vs
  | [], H, cs', H', h => by
    simp only [fzd.fzcells, Option.some.injEq, Prod.mk.injEq] at h
    obtain ⟨rfl, rfl⟩ := h
    exact ⟨.refl _, rfl, id, fun C vs e hr h => by subst e; exact h⟩
  | c :: cs, H, cs', H', h => by
    simp only [fzd.fzcells] at h
    cases h1 : f H c with
    | none => rw [h1] at h; cases h
    | some p =>
      obtain ⟨c', H1⟩ := p
      rw [h1] at h
      simp only at h
      cases h2 : fzd.fzcells f H1 cs with
      | none => rw [h2] at h; cases h
      | some q =>
        obtain ⟨cs2, H2⟩ := q
        rw [h2] at h
        simp only [Option.some.injEq, Prod.mk.injEq] at h
        obtain ⟨rfl, rfl⟩ := h
        obtain ⟨a1, a2, a3⟩ := hf _ _ _ _ h1
        obtain ⟨b1, b2, b3, b4⟩ := fzcells_ok hf cs H1 cs2 H2 h2
        refine ⟨a1.trans b1, by simp [b2], fun hc => .cons (a2 (hc 0 _ rfl)) (b3 fun j av e => hc (j + 1) av (by simpa using e)), fun C vs e hr h => ?_⟩
        subst e
        have hl := h.1
        cases vs with
        | nil => simp at hl
        | cons v vs =>
          have r1 := a3 C v rfl hr (h.2 0 _ _ rfl rfl)
          have hr1 := a1.hrep hr
          have rest : RepL C cs vs := ⟨by simpa using hl, fun j av v' e e' => h.2 (j + 1) av v' (by simpa using e) (by simpa using e')⟩
          have r2 := b4 { C with H := H1 } vs rfl hr1 (rest.mono fun _ _ r => r.ext a1.ext)
          exact .cons (r1.ext (C := { C with H := H1 }) (C' := { C with H := H2 }) b1.ext) r2

theorem fzrows_ok {f : Heap → AV → Option (AV × Heap)} (hf : FzOK f) : ∀ (rows : List (List AV)) (H : Heap) (rows' : List (List AV)) (H' : Heap), fzd.fzrows f H rows = some (rows', H') →
    FlagLe H H' ∧ rows'.length = rows.length ∧ (∀ sz, (∀ r ∈ rows, r.length = sz) → ∀ r ∈ rows', r.length = sz) ∧ (Cells rows.flatten → Cells rows'.flatten) ∧ ∀ C vs, C.H = H → HRep C → RepL C rows.flatten vs → RepL { C with H := H' } rows'.flatten vs
  | [], H, cs', H', h => by
    simp only [fzd.fzrows, Option.some.injEq, Prod.mk.injEq] at h
    obtain ⟨rfl, rfl⟩ := h
    exact ⟨.refl _, rfl, fun _ h => h, id, fun C vs e hr h => by subst e; exact h⟩
  | c :: cs, H, cs', H', h => by
    simp only [fzd.fzrows] at h
    cases h1 : fzd.fzcells f H c with
    | none => rw [h1] at h; cases h
    | some p =>
      obtain ⟨c', H1⟩ := p
      rw [h1] at h
      simp only at h
      cases h2 : fzd.fzrows f H1 cs with
      | none => rw [h2] at h; cases h
      | some q =>
        obtain ⟨cs2, H2⟩ := q
        rw [h2] at h
        simp only [Option.some.injEq, Prod.mk.injEq] at h
        obtain ⟨rfl, rfl⟩ := h
        obtain ⟨a1, a2, a3, a4⟩ := fzcells_ok hf _ _ _ _ h1
        obtain ⟨b1, b2, b3, b4, b5⟩ := fzrows_ok hf cs H1 cs2 H2 h2
        refine ⟨a1.trans b1, by simp [b2], fun sz hs r hr => ?_, fun hc => ?_, fun C vs e hr h => ?_⟩
        · rcases List.mem_cons.1 hr with rfl | hr
          · rw [a2]; exact hs c (by simp)
          · exact b3 sz (fun r hr => hs r (by simp [hr])) r hr
        · simp only [List.flatten_cons] at hc ⊢
          refine (a3 fun j av e => hc j av ?_).app (b4 fun j av e => hc (c.length + j) av ?_)
          · rw [List.getElem?_append_left (List.getElem?_eq_some_iff.1 e).1]; exact e
          · rw [List.getElem?_append_right (by omega)]; simpa using e
        · subst e
          simp only [List.flatten_cons] at h ⊢
          have h1' : RepL C c (vs.take c.length) := by have := h.take c.length; simpa using this
          have h2' : RepL C cs.flatten (vs.drop c.length) := by have := h.drop c.length; simpa using this
          have r1 := a4 C _ rfl hr h1'
          have hr1 := a1.hrep hr
          have r2 := b5 { C with H := H1 } _ rfl hr1 (h2'.mono fun _ _ r => r.ext a1.ext)
          have r3 := (r1.mono fun _ _ r => r.ext (C := { C with H := H1 }) (C' := { C with H := H2 }) b1.ext).app r2
          rwa [List.take_append_drop] at r3

theorem fzd_ok : ∀ d, FzOK (fzd d)
  | 0 => fun H v v' H' h => by simp [fzd] at h
  | d + 1 => fun H v v' H' h => by
    have ih := fzd_ok d
    unfold fzd at h
    split at h
    · rename_i id n
      split at h
      · rename_i wr e sz rows hg
        split at h
        · rename_i hn
          simp only [Option.some.injEq, Prod.mk.injEq] at h
          obtain ⟨rfl, rfl⟩ := h
          have hfl := FlagLe.set hg
          refine ⟨hfl, fun _ => rfl, fun C u eH hr hv => ?_⟩
          subst eH
          cases hv with
          | own _ _ _ ha hs ho =>
            rcases (ho _ hg).2 hn with hu | ⟨hn0, _, b, rfl⟩
            case inr =>
              have hrz : rows = [] := List.eq_nil_of_length_eq_zero (by omega)
              subst hrz
              exact .list sz [] b 0 (fun _ => undef) (hr.obj id _ hg).1 (Nat.le_refl _) (fun _ => rfl) (by simp) (by simp) (by simp) (by simp)
            rw [hu]
            refine rep_list_of_row (C := { C with H := hset C.H id (.row false true e sz rows) }) (hfl.hrep hr) (e := e) (fl := true) (by show hget (hset C.H id _) id = _; rw [hget_hset, if_pos ⟨rfl, by rw [hg]; rfl⟩]) rfl ?_ ?_ (fun xs _ h => h)
            · exact (hr.obj id _ hg).2.1
            · exact (hr.obj id _ hg).2.2.1
        · cases h
      · rename_i wr e sz rows hg
        split at h
        · rename_i hn
          split at h
          · rename_i rows' H2 hz
            simp only [Option.some.injEq, Prod.mk.injEq] at h
            obtain ⟨rfl, rfl⟩ := h
            have hfl := FlagLe.set hg
            obtain ⟨b1, b2, b3, b4, b5⟩ := fzrows_ok ih _ _ _ _ hz
            refine ⟨hfl.trans b1, fun _ => rfl, fun C u eH hr hv => ?_⟩
            subst eH
            cases hv with
            | own _ _ _ ha hs ho =>
              rcases (ho _ hg).2 hn with hu | ⟨hn0, _, b, rfl⟩
              case inr =>
                have hrz : rows' = [] := List.eq_nil_of_length_eq_zero (by omega)
                subst hrz
                exact .list sz [] b 0 (fun _ => undef) (hr.obj id _ hg).1 (Nat.le_refl _) (fun _ => rfl) (by simp) (by simp) (by simp) (by simp)
              rw [hu]
              have h1 : hget (hset C.H id (.row false false e sz rows)) id = some (.row false false e sz rows) := by rw [hget_hset, if_pos ⟨rfl, by rw [hg]; rfl⟩]
              obtain ⟨o2, e2, f2⟩ := b1.up id _ h1
              have ho2 : o2 = .row false false e sz rows := by
                rcases f2 with rfl | ⟨a, b, c, d', e', h, rfl⟩
                · rfl
                · injection h with x1 x2 x3 x4 x5
                  rw [x2, x3, x4, x5]
              subst ho2
              obtain ⟨h00, h01, h02, _⟩ := hr.obj id _ hg
              have hr1 := hfl.hrep hr
              obtain ⟨_, _, _, xs0, h03, h04⟩ := hr1.obj id _ h1
              have r5 := b5 { C with H := hset C.H id (.row false false e sz rows) } xs0 rfl hr1 h04
              have hr2 : HRep { C with H := H2 } := FlagLe.hrep (C := { C with H := hset C.H id (.row false false e sz rows) }) b1 hr1
              refine rep_list_of_row (C := { C with H := H2 }) hr2 e2 b2 (b3 sz h01) (b4 h02) (fun xs hx _ => ?_)
              have hxx : xs = xs0 := ownsRow_unique hx h03
              rw [hxx]
              exact r5
          · cases h
        · cases h
      · cases h
    · rename_i cs
      split at h
      · rename_i cs' H1 hz
        simp only [Option.some.injEq, Prod.mk.injEq] at h
        obtain ⟨rfl, rfl⟩ := h
        obtain ⟨a1, a2, a3, a4⟩ := fzcells_ok ih _ _ _ _ hz
        refine ⟨a1, fun hc => by simp [isCell] at hc, fun C u e hr hv => ?_⟩
        obtain ⟨vs, rfl, h1, h2⟩ := hv.agg_inv
        have := a4 C vs e hr h1
        exact .agg _ vs this.1 (a3 h2) this.2
      · cases h
    · rename_i cs
      split at h
      · rename_i cs' H1 hz
        simp only [Option.some.injEq, Prod.mk.injEq] at h
        obtain ⟨rfl, rfl⟩ := h
        obtain ⟨a1, a2, a3, a4⟩ := fzcells_ok ih _ _ _ _ hz
        refine ⟨a1, fun hc => by simp [isCell] at hc, fun C u e hr hv => ?_⟩
        obtain ⟨vs, rfl, h1⟩ := hv.tuple_inv
        have := a4 C vs e hr h1
        exact .tuple _ vs this.1 this.2
      · cases h
    · cases h
    · simp only [Option.some.injEq, Prod.mk.injEq] at h
      obtain ⟨rfl, rfl⟩ := h
      exact ⟨.refl _, id, fun C u e hr hv => by subst e; exact hv⟩

end Go.Proofs.Abs

namespace Go.Proofs.Abs
open Go
variable [Globs] {D : List Deferred}

def partsOK (place : Nat → Option (Nat × Nat)) : List (Nat × Operand) → List (Nat × Nat × AX) → Bool
  | [], [] => true
  | (i, x) :: r, (off, sz, y) :: r' => decide (place i = some (off, sz)) && opdOK x y && partsOK place r r'
  | _, _ => false
def partsOKl : List (Nat × Operand) → List (Nat × AX) → Bool
  | [], [] => true
  | (i, x) :: r, (j, y) :: r' => i == j && opdOK x y && partsOKl r r'
  | _, _ => false
def placesOf (P : Program) (t : Nat) : Option (Nat → Option (Nat × Nat)) :=
  match P.underlying t with
  | some (.array _ e) => match P.info? e with
    | some ie => some fun i => some (i * ie.size, ie.size)
    | none => none
  | some (.struct fields) => match fields.toList.mapM (fun f => (P.info? f.type).map fun i => (f.offset, i.size)) with
    | some places => some fun i => places[i]?
    | none => none
  | _ => none
def kindIs (P : Program) (t : Nat) : Nat → Bool
  | 0 => (match P.underlying t with | some (.int _) => true | _ => false)
  | 1 => (match P.underlying t with | some .bool => true | _ => false)
  | 2 => (match P.underlying t with | some .string => true | _ => false)
  | _ => false
def structCmp (P : Program) : List Field → Nat → List Nat → Bool
  | [], _, [] => true
  | f :: r, n, k :: ks => f.name != "_" && f.offset == n && kindIs P f.type k && structCmp P r (n + 1) ks
  | _, _, _ => false

def keyTy (P : Program) (k kd : Nat) (ks : List Nat) : Bool :=
  match kd with
  | 3 => (match P.underlying k with
    | some (.struct fs) => !P.stoodInHeld k && structCmp P fs.toList 0 ks
    | some (.array n e) => sizeIs P e 1 && ks.length == n && ks.all (kindIs P e)
    | _ => false)
  | kd => kindIs P k kd
def zero1 (P : Program) (t : Nat) (x : AV) : Bool := match P.info? t with
  | some i => match i.zero with
    | some z => constOK z x
    | none => false
  | none => false
def argsOK : List Operand → List (Bool × AX) → Bool
  | [], [] => true
  | x :: xs, (_, y) :: ys => opdOK x y && argsOK xs ys
  | _, _ => false

def chkIns (P : Program) (o : Oper) (ins : AIns) : Bool :=
  match ins with
  | .mov x => match o.op with
    | .move y => opdOK y x
    | .assign y => opdOK y x
    | _ => false
  | .anil _ sz => match o.op with
    | .assign (.const (.slice none 0 0)) => decide (0 < sz)
    | _ => false
  | .pick c x y => match o.op with
    | .pick c' x' y' => opdOK c' c && opdOK x' x && opdOK y' y
    | _ => false
  | .new zero => match o.op with
    | .alloc t => zeroIs P t zero
    | _ => false
  | .box x => match o.op with
    | .box _ y => opdOK y x
    | _ => false
  | .agg zero parts => match o.op with
    | .build t ps => zeroIs P t zero && (match placesOf P t with | some pl => partsOK pl ps.toList parts | none => false)
    | _ => false
  | .mkl e sz zero n parts _ => match o.op with
    | .buildSlice t len ps => sliceIs P t e && sizeIs P e sz && zeroIs P e zero && decide (0 < sz) && len == n && decide (len * sz ≤ 16777216) && zero.length == sz && partsOKl ps.toList parts
    | _ => false
  | .load agg m p => match o.op with
    | .load t x => opdOK x p && aggIs P t agg && sizeIs P t m && (agg || m == 1)
    | _ => false
  | .store _ m p x => match o.op with
    | .store t p' x' => opdOK p' p && opdOK x' x && sizeIs P t m && o.dst.isNone
    | _ => false
  | .gsl n x => match o.op with
    | .slice t x' none none none => opdOK x' x && (match P.underlying t with | some (.array n' e) => n' == n && sizeIs P e 1 | _ => false)
    | _ => false
  | .s2b x => match o.op with
    | .convert src dst x' => opdOK x' x && (P.underlying src).isSome && (match P.underlying dst with | some (.slice e) => (match P.underlying e with | some (.int .u8) => true | _ => false) | _ => false)
    | _ => false
  | .storew m p x => match o.op with
    | .store t p' x' => opdOK p' p && opdOK x' x && sizeIs P t m && o.dst.isNone
    | _ => false
  | .nilck x => match o.op with
    | .nilCheck y => opdOK y x
    | _ => false
  | .bin op ty x y => match o.op with
    | .binOp op' t x' y' _ => decide (op' = op) && opdOK x' x && opdOK y' y && (match ty with
        | 0 => true
        | 1 => (match P.underlying t with | some .bool => true | _ => false)
        | 2 => (match y' with | .const .nilIface => true | _ => false) && (match P.underlying t with | some (.interface _) => true | _ => false)
        | _ => false)
    | _ => false
  | .bins op ks x y => match o.op with
    | .binOp op' t x' y' _ => decide (op' = op) && opdOK x' x && opdOK y' y && (match P.underlying t with
        | some (.struct fs) => !P.eqGuardType P.depth t && !P.stoodInHeld t && structCmp P fs.toList 0 ks
        | _ => false)
    | _ => false
  | .un op x => match o.op with
    | .unOp op' _ x' => decide (op' = op) && opdOK x' x
    | _ => false
  | .conv k x => match o.op with
    | .convert src dst x' => opdOK x' x && (P.underlying src).isSome && (match P.underlying dst with | some (.int k') => decide (k' = k) | _ => false)
    | _ => false
  | .faddr off x => match o.op with
    | .fieldAddr t x' f => opdOK x' x && (match P.underlying t with
      | some (.struct fs) => (match fs[f]? with | some fl => fl.offset == off && (match P.info? fl.type with | some i => i.size != 0 | none => false) | none => false)
      | _ => false)
    | .indexAddr t x' (.const (.int .i64 n)) => opdOK x' x && (match P.underlying t with
      | some (.array len e) => (match P.info? e with | some i => decide (0 ≤ n ∧ n < len ∧ off = n.toNat * i.size) | none => false)
      | _ => false)
    | _ => false
  | .fld agg off m x => match o.op with
    | .field t x' f => opdOK x' x && (match P.underlying t with
      | some (.struct fs) => (match fs[f]? with | some fl => fl.offset == off && aggIs P fl.type agg && sizeIs P fl.type m && (agg || m == 1) | none => false)
      | _ => false)
    | _ => false
  | .aidx agg m len x i => match o.op with
    | .index t x' i' => opdOK x' x && opdOK i' i && (match P.underlying t with | some (.array n e) => n == len && aggIs P e agg && sizeIs P e m && (agg || m == 1) | _ => false)
    | _ => false
  | .iaddr sz x i => match o.op with
    | .indexAddr t x' i' => opdOK x' x && opdOK i' i && (match P.underlying t with | some (.slice e) => sizeIs P e sz | _ => false)
    | _ => false
  | .sidx x i => match o.op with
    | .index t x' i' => opdOK x' x && opdOK i' i && (match P.underlying t with | some .string => true | _ => false)
    | _ => false
  | .slc sz x lo hi mx => match o.op with
    | .slice t x' lo' hi' mx' => opdOK x' x && opdOKo lo' lo && opdOKo hi' hi && opdOKo mx' mx && (match P.underlying t with | some (.slice e) => sizeIs P e sz | _ => false) && (mx.isNone || hi.isSome) && decide (0 < sz)
    | _ => false
  | .isnil neg x => match o.op with
    | .binOp op t x' (.const (.slice none 0 0)) _ => opdOK x' x && (match P.underlying t with | some (.slice _) => true | _ => false) && decide (op = (if neg then .neq else .eql))
    | _ => false
  | .zap elem sz x => match o.op with
    | .slice t x' none (some (.const (.int _ 0))) (some (.const (.int _ 0))) => opdOK x' x && (match P.underlying t with | some (.slice e) => e == elem && sizeIs P e sz | _ => false) && decide (0 < sz)
    | _ => false
  | .tlz sz x i => match o.op with
    | .slice t x' (some i') none none => opdOK x' x && opdOK i' i && (match P.underlying t with | some (.slice e) => sizeIs P e sz | _ => false) && decide (0 < sz)
    | _ => false
  | .clr e sz zero x => match o.op with
    | .call { callee := .builtin .clear, args, argTypes } => (match args.toList, argTypes.toList with
      | [x'], [t] => opdOK x' x && sliceIs P t e && sizeIs P e sz && zeroIs P e zero && zero.length == sz && decide (0 < sz)
      | _, _ => false)
    | _ => false
  | .sslc x lo hi => match o.op with
    | .slice t x' lo' hi' none => opdOK x' x && opdOKo lo' lo && opdOKo hi' hi && (match P.underlying t with | some .string => true | _ => false)
    | _ => false
  | .ext x i => match o.op with
    | .extract x' i' => opdOK x' x && i' == i
    | _ => false
  | .mks e sz bytes zero l => match o.op with
    | .makeSlice t l' c' => opdOK l' l && opdOK c' l && sliceIs P t e && sizeIs P e sz && bytesIs P e bytes && zeroIs P e zero && decide (0 < sz) && decide (0 < bytes) && zero.length == sz
    | _ => false
  | .mkf f caps => match o.op with
    | .makeFunc (.func f') first caps' => f' == f && first.isEmpty && opdsOK caps'.toList caps
    | _ => false
  | .mkm => match o.op with
    | .makeMap _ none => true
    | _ => false
  | .look kd ks zero ok m k => match o.op with
    | .lookup t m' k' ok' => ok' == ok && opdOK m' m && opdOK k' k && (match P.underlying t with
        | some (.map kt e) => keyTy P kt kd ks && zero1 P e zero
        | _ => false)
    | _ => false
  | .mset kd ks m k v => match o.op with
    | .mapUpdate t m' k' x | .insert t m' k' x => opdOK m' m && opdOK k' k && opdOK x v && (match P.underlying t with
        | some (.map kt _) => keyTy P kt kd ks
        | _ => false)
    | _ => false
  | .len ty x => match o.op with
    | .call { callee := .builtin .len, args, argTypes } => (match args.toList, argTypes.toList with
      | [x'], [t] => opdOK x' x && (match ty with
        | 0 => (match P.underlying t with | some .string => true | _ => false)
        | 1 => (match P.underlying t with | some (.slice _) => true | _ => false)
        | 2 => (match P.underlying t with | some (.map _ _) => true | _ => false)
        | _ => false)
      | _, _ => false)
    | _ => false
  | .app e sz bytes x y => match o.op with
    | .call { callee := .builtin .append, args, argTypes } => (match args.toList, argTypes.toList with
      | [x', y'], [t, t'] => opdOK x' x && opdOK y' y && sliceIs P t' e && sliceIs P t e && sizeIs P e sz && bytesIs P e bytes && (match P.info? e with | some i => (match i.zero with | some z => z.cells.size == sz | none => false) | none => false) && decide (0 < sz) && decide (0 < bytes)
      | _, _ => false)
    | _ => false
  | .mm mx xs => match o.op with
    | .call { callee := .builtin b, args, .. } => (match b with | .max => mx | .min => !mx | _ => false) && opdsOK args.toList xs
    | _ => false
  | .pcall f args => match o.op with
    | .call { callee := .value (.func f'), args := args', .. } => f' == f % 100000 && opdsOK args'.toList args
    | _ => false
  | .call f args => match o.op with
    | .call { callee := .value (.func f'), args := args', .. } => f' == f % 100000 && argsOK args'.toList args
    | _ => false
  | .callv x args => match o.op with
    | .call { callee := .value x', args := args', .. } => opdOK x' x && argsOK args'.toList args
    | _ => false
  | .lst e sz zero n parts => match o.op with
    | .buildSlice t len ps => sliceIs P t e && sizeIs P e sz && zeroIs P e zero && decide (0 < sz) && len == n && decide (len * sz ≤ 16777216) && zero.length == sz && partsOKl ps.toList parts
    | _ => false

def OpRes (C : Ctx) (q : Id) (r : Result Next) (av : AV) (H' : Heap) : Prop :=
  ∃ C' nv, r = .ok nv C'.w ∧ ((∃ v, nv = .value v ∧ Rep C' av v) ∨ (nv = .skip ∧ av = .undef)) ∧ C'.H = H' ∧ HRep C' ∧ Ext C C' ∧ (∀ id, C.Av id → ¬ q <+: id → C'.Av id)

theorem OpRes.pure {C : Ctx} {q : Id} {r : Result Next} {av : AV} {H' : Heap} {v : Value} (hr : HRep C) (h : r = .ok (.value v) C.w) (hv : Rep C av v) (hH : C.H = H') : OpRes C q r av H' :=
  ⟨C, .value v, h, .inl ⟨v, rfl, hv⟩, hH, hr, Ext.refl C, fun _ h _ => h⟩

theorem OpRes.flag {C : Ctx} {q : Id} {r : Result Next} {av : AV} {H' : Heap} {v : Value} (hr : HRep C) (hf : FlagLe C.H H') (h : r = .ok (.value v) C.w) (hv : Rep { C with H := H' } av v) : OpRes C q r av H' :=
  ⟨{ C with H := H' }, .value v, h, .inl ⟨v, rfl, hv⟩, rfl, hf.hrep hr, hf.ext, fun _ h _ => h⟩

def less (A : Id → Prop) (q : Id) : Id → Prop := fun i => A i ∧ ¬ q <+: i

theorem OpRes.new' {nv0 : Value} {C C0 : Ctx} {q : Id} {r : Result Next} {av : AV} {H' : Heap} {o : AObj} {v : Value} {w : World} (hr : HRep C) (hq : ∀ id, q <+: id → C.Av id)
    (h0 : C0.w = C.w ∧ C0.Av = C.Av) (he0 : Ext C0 C)
    (hrun : r = .ok (.value nv0) w) (hH : H' = hadd C.H q o) (hsz : C.w.heap.size ≤ w.heap.size) (hold : ∀ k, k < C.w.heap.size → w.heap[k]? = C.w.heap[k]?)
    (ht : w.tape = C.w.tape) (hos : w.os = C.w.os) (hout : w.output = C.w.output) (hb : ∀ g, blk v = some g → C.w.heap.size ≤ g)
    (hv : Ext C (C.put (hadd C.H q o) q v w (less C.Av q)) → Rep (C.put (hadd C.H q o) q v w (less C.Av q)) av nv0)
    (ho : Ext C (C.put (hadd C.H q o) q v w (less C.Av q)) → ObjRep (C.put (hadd C.H q o) q v w (less C.Av q)) q o) : OpRes C0 q r av H' := by
  have hA : ∀ i, less C.Av q i → C.Av i := fun i h => h.1
  have hid : ¬ less C.Av q q := fun h => h.2 (List.prefix_refl _)
  have ha : C.Av q := hq q (List.prefix_refl _)
  have he := Ext.new (o := o) (v := v) hr ha hA hsz hold ht hos hout hb
  exact ⟨_, _, hrun, .inl ⟨nv0, rfl, hv he⟩, hH.symm, HRep.new hr ha hA hid hsz hold ht hos hout hb ho, he0.trans he, fun id h1 h2 => ⟨h0.2 ▸ h1, h2⟩⟩

theorem OpRes.new {C C0 : Ctx} {q : Id} {r : Result Next} {av : AV} {H' : Heap} {o : AObj} {v : Value} {w : World} (hr : HRep C) (hq : ∀ id, q <+: id → C.Av id)
    (h0 : C0.w = C.w ∧ C0.Av = C.Av) (he0 : Ext C0 C)
    (hrun : r = .ok (.value v) w) (hH : H' = hadd C.H q o) (hsz : C.w.heap.size ≤ w.heap.size) (hold : ∀ k, k < C.w.heap.size → w.heap[k]? = C.w.heap[k]?)
    (ht : w.tape = C.w.tape) (hos : w.os = C.w.os) (hout : w.output = C.w.output) (hb : ∀ g, blk v = some g → C.w.heap.size ≤ g)
    (hv : Ext C (C.put (hadd C.H q o) q v w (less C.Av q)) → Rep (C.put (hadd C.H q o) q v w (less C.Av q)) av v)
    (ho : Ext C (C.put (hadd C.H q o) q v w (less C.Av q)) → ObjRep (C.put (hadd C.H q o) q v w (less C.Av q)) q o) : OpRes C0 q r av H' := by
  have hA : ∀ i, less C.Av q i → C.Av i := fun i h => h.1
  have hid : ¬ less C.Av q q := fun h => h.2 (List.prefix_refl _)
  have ha : C.Av q := hq q (List.prefix_refl _)
  have he := Ext.new (o := o) (v := v) hr ha hA hsz hold ht hos hout hb
  exact ⟨_, .value v, hrun, .inl ⟨v, rfl, hv he⟩, hH.symm, HRep.new hr ha hA hid hsz hold ht hos hout hb ho, he0.trans he, fun id h1 h2 => ⟨h0.2 ▸ h1, h2⟩⟩

theorem rep_own_new {C : Ctx} {q : Id} {o : AObj} {v : Value} {w : World} {n : Nat} (hn : asize o = n) (hs : ∃ a l c, v = .slice a l c) : Rep (C.put (hadd C.H q o) q v w (less C.Av q)) (.own q n) v := by
  refine .own q n v (fun h => h.2 (List.prefix_refl _)) hs fun o' e => ?_
  have e' : hget (hadd C.H q o) q = some o' := e
  rw [hget_hadd, if_pos rfl] at e'
  injection e' with e'
  subst e'
  exact ⟨by omega, fun _ => .inl (put_self _ _ _ _ _ _).symm⟩

theorem rep_ref_new {C : Ctx} {q : Id} {cells : List AV} {g : Nat} {w : World} : Rep (C.put (hadd C.H q (.box cells)) q (.pointer (some ⟨g, 0, none⟩)) w (less C.Av q)) (.ref q 1 0 0) (.pointer (some ⟨g, 0, none⟩)) := by
  refine .ref q 1 0 0 _ (fun h => h.2 (List.prefix_refl _)) ⟨_, rfl⟩ fun o' e => ?_
  have e' : hget (hadd C.H q (.box cells)) q = some o' := e
  rw [hget_hadd, if_pos rfl] at e'
  injection e' with e'
  subst e'
  exact ⟨Nat.le_refl _, fun _ => ⟨g, by rw [put_self]; rfl, by simp [cellsz]⟩⟩

section
variable {P : Program} {o : Oper} {a : Act} {C : Ctx} {nt : Nat} {s s' : St} {av : AV}

theorem ok_mov {x : AX} (sim : SimE D nt s.env C a) (hH : C.H = s.heap) (hr : HRep C) (hc : chkIns P o (.mov x) = true) (h : ains (.mov x) s = some (av, s')) :
    OpRes C (s.p ++ [s.k]) ((execOp a.eval o).run P C.w) av s'.heap := by
  simp only [ains, Option.some.injEq, Prod.mk.injEq] at h
  obtain ⟨rfl, rfl⟩ := h
  simp only [chkIns] at hc
  split at hc
  · rename_i y e; exact .pure hr (by simp [execOp, e]) (rep_opd sim hc) hH
  · rename_i y e; exact .pure hr (by simp [execOp, e]) (rep_opd sim hc) hH
  · cases hc

theorem ok_anil {e sz : Nat} (sim : SimE D nt s.env C a) (hH : C.H = s.heap) (hr : HRep C) (hq : ∀ id, (s.p ++ [s.k]) <+: id → C.Av id) (hc : chkIns P o (.anil e sz) = true) (h : ains (.anil e sz) s = some (av, s')) :
    OpRes C (s.p ++ [s.k]) ((execOp a.eval o).run P C.w) av s'.heap := by
  simp only [ains, Option.some.injEq, Prod.mk.injEq] at h
  obtain ⟨rfl, rfl⟩ := h
  simp only [chkIns] at hc
  split at hc
  · rename_i eo
    have h0 : 0 < sz := of_decide_eq_true hc
    refine .new (o := .row true true e sz []) (v := .slice none 0 0) (w := C.w) hr hq ⟨rfl, rfl⟩ (Ext.refl C) (by simp [execOp, eo, Act.eval]) (by simp [St.add, hH]) (Nat.le_refl _) (fun _ _ => rfl) rfl rfl rfl (by simp [blk]) (fun _ => rep_own_new rfl ⟨_, _, _, rfl⟩) (fun _ => ?_)
    refine ⟨h0, by simp, by intro j av; simp, [], ?_, .nil⟩
    rw [put_self]
    exact World.ownsRow_nil _ _ _ _
  · cases hc

theorem ok_pick {c x y : AX} (sim : SimE D nt s.env C a) (hH : C.H = s.heap) (hr : HRep C) (hc : chkIns P o (.pick c x y) = true) (h : ains (.pick c x y) s = some (av, s')) :
    OpRes C (s.p ++ [s.k]) ((execOp a.eval o).run P C.w) av s'.heap := by
  simp only [ains] at h
  simp only [chkIns] at hc
  split at hc
  · rename_i c' x' y' eo
    simp only [Bool.and_eq_true] at hc
    split at h
    · rename_i t et
      simp only [Option.some.injEq, Prod.mk.injEq] at h
      obtain ⟨rfl, rfl⟩ := h
      have hcv := rep_opd sim hc.1.1
      rw [et] at hcv
      have e1 := hcv.bool_inv
      refine .pure hr (v := if t then a.eval x' else a.eval y') (by simp [execOp, eo, e1, asBool]) ?_ hH
      cases t
      · exact rep_opd sim hc.2
      · exact rep_opd sim hc.1.2
    · cases h
  · cases hc

theorem alloc_heap (w : World) (ob : Obj) : (w.alloc ob).heap = w.heap.push ob := rfl
theorem alloc_old (w : World) (ob : Obj) (k : Nat) (hk : k < w.heap.size) : (w.alloc ob).heap[k]? = w.heap[k]? := by
  rw [alloc_heap, Array.getElem?_push, if_neg (by omega)]
theorem alloc_new (w : World) (ob : Obj) : (w.alloc ob).heap[w.heap.size]? = some ob := by simp [alloc_heap]

theorem ok_new {zero : List AV} (sim : SimE D nt s.env C a) (hH : C.H = s.heap) (hr : HRep C) (hq : ∀ id, (s.p ++ [s.k]) <+: id → C.Av id) (hc : chkIns P o (.new zero) = true) (h : ains (.new zero) s = some (av, s')) :
    OpRes C (s.p ++ [s.k]) ((execOp a.eval o).run P C.w) av s'.heap := by
  simp only [ains, Option.some.injEq, Prod.mk.injEq] at h
  obtain ⟨rfl, rfl⟩ := h
  simp only [chkIns] at hc
  split at hc
  · rename_i t eo
    obtain ⟨i, z, h1, h2, h3⟩ := zeroIs_iff hc
    refine .new (o := .box zero) (v := .pointer (some ⟨C.w.heap.size, 0, none⟩)) (w := C.w.alloc (.cells z.cells t)) hr hq ⟨rfl, rfl⟩ (Ext.refl C) ?_ (by simp [St.add, hH]) (by simp [alloc_heap]) (fun k hk => alloc_old _ _ _ hk) rfl rfl rfl (by intro g hg; simp [blk] at hg; omega) (fun _ => rep_ref_new) (fun _ => ?_)
    · simp [execOp, eo, Instr.alloc, run_zeroValue' h1 h2, newVar, newRow]
    · obtain ⟨r1, r2⟩ := rep_constCells (C.put (hadd C.H (s.p ++ [s.k]) (.box zero)) (s.p ++ [s.k]) (.pointer (some ⟨C.w.heap.size, 0, none⟩)) (C.w.alloc (.cells z.cells t)) (less C.Av (s.p ++ [s.k]))) h3
      exact ⟨r2, C.w.heap.size, z.cells, t, put_self _ _ _ _ _ _, alloc_new _ _, r1⟩
  · cases hc

theorem ok_box {x : AX} (sim : SimE D nt s.env C a) (hH : C.H = s.heap) (hr : HRep C) (hq : ∀ id, (s.p ++ [s.k]) <+: id → C.Av id) (hc : chkIns P o (.box x) = true) (h : ains (.box x) s = some (av, s')) :
    OpRes C (s.p ++ [s.k]) ((execOp a.eval o).run P C.w) av s'.heap := by
  simp only [ains] at h
  simp only [chkIns] at hc
  split at hc
  · rename_i t y eo
    split at h
    · rename_i cs ecs
      simp only [Option.some.injEq, Prod.mk.injEq] at h
      obtain ⟨rfl, rfl⟩ := h
      obtain ⟨r1, r2⟩ := cellsOf_rep (rep_opd sim hc) ecs
      refine .new (o := .box cs) (v := .pointer (some ⟨C.w.heap.size, 0, none⟩)) (w := C.w.alloc (.cells (a.eval y).cells t)) hr hq ⟨rfl, rfl⟩ (Ext.refl C) ?_ (by simp [St.add, hH]) (by simp [alloc_heap]) (fun k hk => alloc_old _ _ _ hk) rfl rfl rfl (by intro g hg; simp [blk] at hg; omega) (fun _ => rep_ref_new) (fun he => ?_)
      · simp [execOp, eo, Instr.box, newVar, newRow]
      · exact ⟨r2, C.w.heap.size, _, t, put_self _ _ _ _ _ _, alloc_new _ _, r1.mono fun _ _ r => r.ext he⟩
    · cases h
  · cases hc

end
end Go.Proofs.Abs

namespace Go.Proofs.Abs
open Go
variable [Globs] {D : List Deferred}

section
variable {P : Program} {o : Oper} {a : Act} {C : Ctx} {nt : Nat} {s s' : St} {av : AV}

theorem add_none {ad : Addr} (hs : ad.spot = none) (n : Nat) : ad.add n = ⟨ad.block, ad.off + n, none⟩ := by
  unfold Addr.add
  split
  · rename_i h; subst h; cases ad; simp_all
  · cases ad; simp_all

theorem rows_flat {rows : List (List AV)} {sz : Nat} (hr : ∀ r ∈ rows, r.length = sz) : ∀ {i : Nat} {row : List AV}, rows[i]? = some row → ∀ j, j < sz → rows.flatten[i * sz + j]? = row[j]? := by
  induction rows with
  | nil => intro i row h; simp at h
  | cons r0 rest ih =>
    intro i row h j hj
    have h0 := hr r0 (by simp)
    cases i with
    | zero =>
      simp only [List.getElem?_cons_zero, Option.some.injEq] at h
      subst h
      simp only [Nat.zero_mul, Nat.zero_add, List.flatten_cons]
      rw [List.getElem?_append_left (by omega)]
    | succ i =>
      simp only [List.getElem?_cons_succ] at h
      have := ih (fun r hr' => hr r (by simp [hr'])) h j hj
      simp only [List.flatten_cons]
      rw [List.getElem?_append_right (by rw [h0, Nat.succ_mul]; omega), ← this]
      congr 1
      rw [h0, Nat.succ_mul]
      omega

theorem flat_len {rows : List (List AV)} {sz : Nat} (hr : ∀ r ∈ rows, r.length = sz) : rows.flatten.length = rows.length * sz := by
  induction rows with
  | nil => simp
  | cons r0 rest ih =>
    simp only [List.flatten_cons, List.length_append, List.length_cons]
    rw [ih (fun r h => hr r (by simp [h])), hr r0 (by simp), Nat.succ_mul]
    omega

theorem row_cell {id : Id} {wr fl : Bool} {e sz : Nat} {rows : List (List AV)} (hr : HRep C) (h : hget C.H id = some (.row wr fl e sz rows)) {i j : Nat} {row : List AV} {av : AV} (hi : rows[i]? = some row) (hj : row[j]? = some av) :
    ∃ g v, blk (C.φ id) = some g ∧ C.w.cell? ⟨g, i * sz + j, none⟩ = some v ∧ Rep C av v ∧ isCell av = true ∧ C.w.frozen? ⟨g, i * sz + j, none⟩ = false := by
  obtain ⟨h0, h1, h2, xs, h3, h4⟩ := hr.obj id _ h
  have hrow := h1 row (List.mem_of_getElem? hi)
  have hjs : j < sz := by have := (List.getElem?_eq_some_iff.1 hj).1; omega
  have hf := rows_flat h1 hi j hjs
  rw [hj] at hf
  have hlt := (List.getElem?_eq_some_iff.1 hf).1
  have hx : xs[i * sz + j]? = some (xs.getD (i * sz + j) undef) := by
    have : i * sz + j < xs.length := by rw [← h4.1]; exact hlt
    simp [List.getD, List.getElem?_eq_getElem this]
  rcases h3.2 with ⟨hv, hn⟩ | ⟨g, cap, cur, hv, _, hh, hnc, _, hcs, htake⟩
  · have : rows = [] := List.eq_nil_of_length_eq_zero hn
    subst this
    simp at hi
  · refine ⟨g, xs.getD (i * sz + j) undef, by rw [hv]; rfl, ?_, h4.2 _ _ _ hf hx, h2 _ _ hf, by simp [World.frozen?, hh]⟩
    have hlt2 : i * sz + j < rows.length * sz := by rw [h4.1, h3.1] at hlt; exact hlt
    have hx' := hx
    rw [← htake, List.getElem?_take, if_pos hlt2, Array.getElem?_toList] at hx'
    simp only [World.cell?, hh]
    rw [← htake]
    simpa using hx'

theorem box_cell {id : Id} {cells : List AV} (hr : HRep C) (h : hget C.H id = some (.box cells)) {j : Nat} {av : AV} (hj : cells[j]? = some av) :
    ∃ g v, blk (C.φ id) = some g ∧ C.w.cell? ⟨g, j, none⟩ = some v ∧ Rep C av v ∧ isCell av = true ∧ C.w.frozen? ⟨g, j, none⟩ = false := by
  obtain ⟨h0, g, cs, e, h1, h2, h3⟩ := hr.obj id _ h
  have hlt := (List.getElem?_eq_some_iff.1 hj).1
  have hl : j < cs.size := by have := h3.1; simp at this; omega
  have hx : cs.toList[j]? = some cs[j] := by simp [hl]
  exact ⟨g, cs[j], by rw [h1]; rfl, by simp [World.cell?, h2, hl], h3.2 j _ _ hj hx, h0 j _ hj, by simp [World.frozen?, h2]⟩

theorem loadObj_cells {id : Id} {ob : AObj} {n i j m : Nat} {cs : List AV} {v : Value} (hr : HRep C) (h : hget C.H id = some ob) (hl : loadObj ob n i j m = some cs) (hm : cs.length = m) (hv : Rep C (.ref id n i j) v) :
    ∃ g, v = .pointer (some ⟨g, i * cellsz ob + j, none⟩) ∧ blk (C.φ id) = some g ∧ ∃ us : List Value, RepL C cs us ∧ Cells cs ∧ (∀ k u, us[k]? = some u → C.w.cell? ⟨g, i * cellsz ob + j + k, none⟩ = some u) := by
  have hsize : asize ob = n := by
    cases ob with
    | row wr fl e sz rows => simp only [loadObj] at hl; split at hl; · rename_i hn; exact hn
                             · cases hl
    | box cells => simp only [loadObj] at hl; split at hl; · rename_i hn; exact hn.1.symm
                   · cases hl
    | map es => simp [loadObj] at hl
  cases hv with
  | ref _ _ _ _ _ ha hs ho =>
    obtain ⟨g, hg, hvv⟩ := (ho ob h).2 hsize
    refine ⟨g, hvv, hg, ?_⟩
    have key : ∀ k av, cs[k]? = some av → ∃ u, C.w.cell? ⟨g, i * cellsz ob + j + k, none⟩ = some u ∧ Rep C av u ∧ isCell av = true := by
      intro k av hk
      cases ob with
      | row wr fl e sz rows =>
        simp only [loadObj] at hl
        split at hl
        · cases hri : rows[i]? with
          | none => rw [hri] at hl; simp at hl
          | some row =>
            rw [hri] at hl
            simp only [Option.map_some, Option.some.injEq] at hl
            subst hl
            rw [List.getElem?_take] at hk
            split at hk
            · rw [List.getElem?_drop] at hk
              obtain ⟨g', u, h1, h2, h3, h4, _⟩ := row_cell hr h hri hk
              rw [hg] at h1; injection h1 with h1; subst h1
              exact ⟨u, by simpa [cellsz, Nat.add_assoc] using h2, h3, h4⟩
            · cases hk
        · cases hl
      | box cells =>
        simp only [loadObj] at hl
        split at hl
        · rename_i hn
          injection hl with hl
          subst hl
          rw [List.getElem?_take] at hk
          split at hk
          · rw [List.getElem?_drop] at hk
            obtain ⟨g', u, h1, h2, h3, h4, _⟩ := box_cell hr h hk
            rw [hg] at h1; injection h1 with h1; subst h1
            exact ⟨u, by simpa [cellsz, Nat.add_assoc] using h2, h3, h4⟩
          · cases hk
        · cases hl
      | map es => simp [loadObj] at hl
    refine ⟨(List.range cs.length).map fun k => (C.w.cell? ⟨g, i * cellsz ob + j + k, none⟩).getD undef, ⟨by simp, fun k av u e1 e2 => ?_⟩, fun k av e1 => ?_, fun k u e2 => ?_⟩
    · obtain ⟨u', h1, h2, h3⟩ := key k av e1
      have hk := (List.getElem?_eq_some_iff.1 e1).1
      simp [hk, h1] at e2
      subst e2
      exact h2
    · obtain ⟨u', h1, h2, h3⟩ := key k av e1
      exact h3
    · have hk : k < cs.length := by have := (List.getElem?_eq_some_iff.1 e2).1; simpa using this
      obtain ⟨u', h1, h2, h3⟩ := key k cs[k] (List.getElem?_eq_getElem hk)
      simp [hk, h1] at e2
      subst e2
      exact h1

theorem run_loadVar' {t m : Nat} {agg : Bool} {ad : Addr} {us : List Value} {w : World} (ha : aggIs P t agg = true) (hs : sizeIs P t m = true) (hsp : ad.spot = none) (hl : us.length = m) (hm : agg = true ∨ m = 1) (hc : ∀ k u, us[k]? = some u → w.cell? ⟨ad.block, ad.off + k, none⟩ = some u) :
    (loadVar t ad).run P w = .ok (if agg then .agg us.toArray else us.headD undef) w := by
  have hc' : ∀ k u, us[k]? = some u → w.cell? (ad.add k) = some u := fun k u e => by rw [add_none hsp]; exact hc k u e
  simp only [loadVar, Sem.run_bind, run_isAgg ha, Result.andThen_ok]
  cases agg with
  | true =>
    have := run_loadCells_list (P := P) w ad us hc'
    rw [hl] at this
    simp [run_sizeOf' hs, this]
  | false =>
    have hm1 : m = 1 := by simpa using hm
    obtain ⟨u, rfl⟩ := List.length_eq_one_iff.1 (hl.trans hm1)
    have := hc 0 u rfl
    have e0 : (⟨ad.block, ad.off + 0, none⟩ : Addr) = ad := by cases ad; simp_all
    rw [e0] at this
    simp [this]

theorem ok_load {agg : Bool} {m : Nat} {p : AX} (sim : SimE D nt s.env C a) (hH : C.H = s.heap) (hr : HRep C) (hc : chkIns P o (.load agg m p) = true) (h : ains (.load agg m p) s = some (av, s')) :
    OpRes C (s.p ++ [s.k]) ((execOp a.eval o).run P C.w) av s'.heap := by
  simp only [ains] at h
  simp only [chkIns] at hc
  split at hc
  · rename_i t x eo
    simp only [Bool.and_eq_true, Bool.or_eq_true, beq_iff_eq] at hc
    obtain ⟨⟨⟨c1, c2⟩, c3⟩, c4⟩ := hc
    have hv := rep_opd sim c1
    split at h
    · rename_i cs ep
      rw [ep] at hv
      split at h
      · rename_i hm
        cases hof : ofCells agg (cs.take m) with
        | none => rw [hof] at h; simp at h
        | some av' =>
          rw [hof] at h
          simp only [Option.map_some, Option.some.injEq, Prod.mk.injEq] at h
          obtain ⟨rfl, rfl⟩ := h
          generalize hx : a.eval x = xv at hv
          cases hv with
          | rp _ ad vals hs hf hv' =>
            have hus : RepL C (cs.take m) ((List.range m).map vals) := by
              refine ⟨by simp; omega, fun j av u e1 e2 => ?_⟩
              rw [List.getElem?_take] at e1
              split at e1
              · rename_i hj
                simp [hj] at e2
                subst e2
                exact hv' j av e1
              · cases e1
            have hcl : Cells (cs.take m) := by
              intro j av e1
              rw [List.getElem?_take] at e1
              split at e1
              · exact (hf j av e1).1
              · cases e1
            have hrun := run_loadVar' (w := C.w) (us := (List.range m).map vals) c2 c3 hs (by simp) c4 (fun k u e => by
              have hk : k < m := by have := (List.getElem?_eq_some_iff.1 e).1; simpa using this
              simp [hk] at e
              subst e
              have hk' : k < cs.length := by omega
              exact (hf k cs[k] (List.getElem?_eq_getElem hk')).2.1)
            rcases ofCells_rep hus hcl hof with ⟨rfl, r⟩ | ⟨rfl, u, hu, r⟩
            · exact .pure hr (by simp [execOp, eo, Instr.loadAt, Instr.sureAddr, hx, hrun]) r hH
            · rw [hu] at hrun
              exact .pure hr (v := u) (by simp [execOp, eo, Instr.loadAt, Instr.sureAddr, hx, hrun]) r hH
      · cases h
    · rename_i id n i j ep
      rw [ep] at hv
      split at h
      · rename_i ob eob
        rw [← hH] at eob
        split at h
        · rename_i cs ecs
          split at h
          · rename_i hm
            cases hof : ofCells agg cs with
            | none => rw [hof] at h; simp at h
            | some av' =>
              rw [hof] at h
              simp only [Option.map_some, Option.some.injEq, Prod.mk.injEq] at h
              obtain ⟨rfl, rfl⟩ := h
              obtain ⟨g, e1, e2, us, h1, h2, h3⟩ := loadObj_cells hr eob ecs hm hv
              have hrun := run_loadVar' (w := C.w) (ad := ⟨g, i * cellsz ob + j, none⟩) (us := us) c2 c3 rfl (by rw [← h1.1]; exact hm) c4 h3
              rcases ofCells_rep h1 h2 hof with ⟨rfl, r⟩ | ⟨rfl, u, hu, r⟩
              · exact .pure hr (by simp [execOp, eo, Instr.loadAt, Instr.sureAddr, e1, hrun]) r hH
              · rw [hu] at hrun
                exact .pure hr (v := u) (by simp [execOp, eo, Instr.loadAt, Instr.sureAddr, e1, hrun]) r hH
          · cases h
        · cases h
      · cases h
    · cases h
  · cases hc

theorem ok_nilck {x : AX} (sim : SimE D nt s.env C a) (hH : C.H = s.heap) (hr : HRep C) (hc : chkIns P o (.nilck x) = true) (h : ains (.nilck x) s = some (av, s')) :
    OpRes C (s.p ++ [s.k]) ((execOp a.eval o).run P C.w) av s'.heap := by
  simp only [ains] at h
  simp only [chkIns] at hc
  split at hc
  · rename_i y eo
    have hv := rep_opd sim hc
    generalize hy : a.eval y = yv at hv
    split at h
    · rename_i cs e
      simp only [Option.some.injEq, Prod.mk.injEq] at h
      obtain ⟨rfl, rfl⟩ := h
      rw [e] at hv
      cases hv with
      | rp _ ad vals hs hf hv' => exact .pure hr (v := .pointer (some ad)) (by simp [execOp, eo, hy]) (.rp cs ad vals hs hf hv') hH
    · rename_i id n i j e
      simp only [Option.some.injEq, Prod.mk.injEq] at h
      obtain ⟨rfl, rfl⟩ := h
      rw [e] at hv
      have hs : ∃ ad, yv = .pointer (some ad) := by cases hv with | ref _ _ _ _ _ ha hs ho => exact hs
      obtain ⟨ad, rfl⟩ := hs
      exact .pure hr (v := .pointer (some ad)) (by simp [execOp, eo, hy]) hv hH
    · rename_i f caps e
      simp only [Option.some.injEq, Prod.mk.injEq] at h
      obtain ⟨rfl, rfl⟩ := h
      rw [e] at hv
      obtain ⟨vs, rfl, hl⟩ := hv.func_inv
      exact .pure hr (v := .func (.func f) #[] vs.toArray) (by simp [execOp, eo, hy]) hv hH
    · cases h
  · cases hc

theorem ok_un {op : UnOp} {x : AX} (sim : SimE D nt s.env C a) (hH : C.H = s.heap) (hr : HRep C) (hc : chkIns P o (.un op x) = true) (h : ains (.un op x) s = some (av, s')) :
    OpRes C (s.p ++ [s.k]) ((execOp a.eval o).run P C.w) av s'.heap := by
  simp only [ains] at h
  simp only [chkIns] at hc
  split at hc
  · rename_i op' t x' eo
    simp only [Bool.and_eq_true, decide_eq_true_eq] at hc
    obtain ⟨rfl, c1⟩ := hc
    have hv := rep_opd sim c1
    cases hu : aun op' (x.ev s.env) with
    | none => rw [hu] at h; simp at h
    | some r =>
      rw [hu] at h
      simp only [Option.map_some, Option.some.injEq, Prod.mk.injEq] at h
      obtain ⟨rfl, rfl⟩ := h
      unfold aun at hu
      split at hu
      · rename_i b e
        injection hu with hu
        subst hu
        rw [e] at hv
        exact .pure hr (v := .bool (!b)) (by simp [execOp, eo, hv.bool_inv, Op.unary]) (.bool _) hH
      · rename_i k n e
        injection hu with hu
        subst hu
        rw [e] at hv
        exact .pure hr (v := .int k (k.wrap (0 - n))) (by simp [execOp, eo, hv.int_inv, Op.unary, Op.intArith]) (.int _ _) hH
      · cases hu
  · cases hc

theorem ok_conv {k : IntKind} {x : AX} (sim : SimE D nt s.env C a) (hH : C.H = s.heap) (hr : HRep C) (hc : chkIns P o (.conv k x) = true) (h : ains (.conv k x) s = some (av, s')) :
    OpRes C (s.p ++ [s.k]) ((execOp a.eval o).run P C.w) av s'.heap := by
  simp only [ains] at h
  simp only [chkIns] at hc
  split at hc
  · rename_i src dst x' eo
    simp only [Bool.and_eq_true] at hc
    obtain ⟨⟨c1, c2⟩, c3⟩ := hc
    have hv := rep_opd sim c1
    split at h
    · rename_i k0 n e
      simp only [Option.some.injEq, Prod.mk.injEq] at h
      obtain ⟨rfl, rfl⟩ := h
      rw [e] at hv
      obtain ⟨d, hd⟩ := Option.isSome_iff_exists.1 c2
      split at c3
      · rename_i k' hk'
        simp only [decide_eq_true_eq] at c3
        subst c3
        exact .pure hr (v := .int k' (k'.wrap n)) (by simp [execOp, eo, hv.int_inv, convert, run_underlying hd, run_underlying hk', Conv.intToInt]) (.int _ _) hH
      · cases c3
    · cases h
  · cases hc

theorem ok_faddr_core {off : Nat} {x : AX} {x' : Operand} (sim : SimE D nt s.env C a) (hH : C.H = s.heap) (hr : HRep C) (c1 : opdOK x' x = true)
    (hrun : ∀ ad : Addr, a.eval x' = .pointer (some ad) → (execOp a.eval o).run P C.w = .ok (.value (.pointer (some (ad.add off)))) C.w) (h : ains (.faddr off x) s = some (av, s')) :
    OpRes C (s.p ++ [s.k]) ((execOp a.eval o).run P C.w) av s'.heap := by
  simp only [ains] at h
  have hv := rep_opd sim c1
  generalize hx : a.eval x' = xv at hv
  split at h
  · rename_i cs e
    simp only [Option.some.injEq, Prod.mk.injEq] at h
    obtain ⟨rfl, rfl⟩ := h
    rw [e] at hv
    cases hv with
    | rp _ ad vals hs hf' hv' =>
      refine .pure hr (v := .pointer (some (ad.add off))) (hrun ad hx) ?_ hH
      rw [add_none hs]
      refine .rp _ _ (fun j => vals (off + j)) rfl (fun j av e1 => ?_) (fun j av e1 => ?_)
      · rw [List.getElem?_drop] at e1
        have := hf' _ _ e1
        refine ⟨this.1, ?_⟩
        have h2 := this.2
        unfold Fro at h2 ⊢
        simpa [Nat.add_assoc] using h2
      · rw [List.getElem?_drop] at e1
        exact hv' _ _ e1
  · rename_i id n i j e
    simp only [Option.some.injEq, Prod.mk.injEq] at h
    obtain ⟨rfl, rfl⟩ := h
    rw [e] at hv
    cases hv with
    | ref _ _ _ _ _ ha hs ho =>
      obtain ⟨ad, rfl⟩ := hs
      refine .pure hr (v := .pointer (some (ad.add off))) (hrun ad hx) ?_ hH
      refine .ref _ _ _ _ _ ha ⟨_, rfl⟩ fun ob e1 => ⟨(ho ob e1).1, fun hn => ?_⟩
      obtain ⟨g, h1, h2⟩ := (ho ob e1).2 hn
      injection h2 with h2
      injection h2 with h2
      subst h2
      exact ⟨g, h1, by rw [add_none rfl]; simp [Nat.add_assoc]⟩
  · cases h
theorem ok_faddr {off : Nat} {x : AX} (sim : SimE D nt s.env C a) (hH : C.H = s.heap) (hr : HRep C) (hc : chkIns P o (.faddr off x) = true) (h : ains (.faddr off x) s = some (av, s')) :
    OpRes C (s.p ++ [s.k]) ((execOp a.eval o).run P C.w) av s'.heap := by
  simp only [chkIns] at hc
  split at hc
  · rename_i t x' f eo
    simp only [Bool.and_eq_true] at hc
    obtain ⟨c1, c2⟩ := hc
    split at c2
    · rename_i fs hu
      split at c2
      · rename_i fl hf
        simp only [Bool.and_eq_true, beq_iff_eq] at c2
        obtain ⟨rfl, c2⟩ := c2
        refine ok_faddr_core sim hH hr c1 (fun ad e => ?_) h
        split at c2
        · rename_i i hi
          have hz : i.size ≠ 0 := by simpa using c2
          simp [execOp, eo, e, Instr.fieldAt, run_underlying hu, hf, Instr.sureAddr, fieldPlace, sizeOf, typeInfo, hi, hz]
        · cases c2
      · cases c2
    · cases c2
  · rename_i t x' n eo
    simp only [Bool.and_eq_true] at hc
    obtain ⟨c1, c2⟩ := hc
    split at c2
    · rename_i len e hu
      split at c2
      · rename_i i hi
        simp only [decide_eq_true_eq] at c2
        obtain ⟨n0, n1, rfl⟩ := c2
        refine ok_faddr_core sim hH hr c1 (fun ad e => ?_) h
        have ev : a.eval (.const (.int .i64 n)) = .int .i64 n := rfl
        simp [execOp, eo, e, ev, Instr.indexAt, asIntOf, asInt, run_underlying hu, Instr.sureAddr, sizeOf, typeInfo, hi, n0, n1]
      · cases c2
    · cases c2
  · cases hc

theorem ok_ext {x : AX} {i : Nat} (sim : SimE D nt s.env C a) (hH : C.H = s.heap) (hr : HRep C) (hc : chkIns P o (.ext x i) = true) (h : ains (.ext x i) s = some (av, s')) :
    OpRes C (s.p ++ [s.k]) ((execOp a.eval o).run P C.w) av s'.heap := by
  simp only [ains] at h
  simp only [chkIns] at hc
  split at hc
  · rename_i x' i' eo
    simp only [Bool.and_eq_true, beq_iff_eq] at hc
    obtain ⟨c1, rfl⟩ := hc
    have hv := rep_opd sim c1
    split at h
    · rename_i vs e
      cases hvi : vs[i']? with
      | none => rw [hvi] at h; simp at h
      | some v' =>
        rw [hvi] at h
        simp only [Option.map_some, Option.some.injEq, Prod.mk.injEq] at h
        obtain ⟨rfl, rfl⟩ := h
        rw [e] at hv
        obtain ⟨us, hu, hl⟩ := hv.tuple_inv
        have hlt := (List.getElem?_eq_some_iff.1 hvi).1
        have hlt' : i' < us.length := by rw [← hl.1]; exact hlt
        have hui : us[i']? = some us[i'] := List.getElem?_eq_getElem hlt'
        exact .pure hr (v := us[i']) (by simp [execOp, eo, hu, Instr.extract, hui]) (hl.2 _ _ _ hvi hui) hH
    · cases h
  · cases hc

theorem ok_mkm (sim : SimE D nt s.env C a) (hH : C.H = s.heap) (hr : HRep C) (hq : ∀ id, (s.p ++ [s.k]) <+: id → C.Av id) (hc : chkIns P o .mkm = true) (h : ains .mkm s = some (av, s')) :
    OpRes C (s.p ++ [s.k]) ((execOp a.eval o).run P C.w) av s'.heap := by
  simp only [ains, Option.some.injEq, Prod.mk.injEq] at h
  obtain ⟨rfl, rfl⟩ := h
  simp only [chkIns] at hc
  split at hc
  · rename_i t eo
    refine .new (o := .map []) (v := .map (some C.w.heap.size)) (w := C.w.alloc (.map #[] 0)) hr hq ⟨rfl, rfl⟩ (Ext.refl C) ?_ (by simp [St.add, hH]) (by simp [alloc_heap]) (fun k hk => alloc_old _ _ _ hk) rfl rfl rfl (by intro g hg; simp [blk] at hg; omega) (fun _ => ?_) (fun _ => ?_)
    · simp [execOp, eo, Instr.makeMap]
    · refine .map _ _ (fun h => h.2 (List.prefix_refl _)) ⟨_, rfl⟩ fun o' e k => ?_
      exact (put_self _ _ _ _ _ _).symm
    · exact ⟨C.w.heap.size, #[], 0, put_self _ _ _ _ _ _, alloc_new _ _, .nil, .nil⟩
  · cases hc

theorem opds_rep (sim : SimE D nt s.env C a) : ∀ {xs : List Operand} {ys : List AX}, opdsOK xs ys = true → RepL C (agetl ys s.env) (xs.map a.eval)
  | [], [], _ => .nil
  | x :: xs, y :: ys, h => by
    simp only [opdsOK, Bool.and_eq_true] at h
    exact .cons (rep_opd sim h.1) (opds_rep sim h.2)
  | [], _ :: _, h => by simp [opdsOK] at h
  | _ :: _, [], h => by simp [opdsOK] at h

theorem ok_mkf {f : Nat} {caps : List AX} (sim : SimE D nt s.env C a) (hH : C.H = s.heap) (hr : HRep C) (hc : chkIns P o (.mkf f caps) = true) (h : ains (.mkf f caps) s = some (av, s')) :
    OpRes C (s.p ++ [s.k]) ((execOp a.eval o).run P C.w) av s'.heap := by
  simp only [ains, Option.some.injEq, Prod.mk.injEq] at h
  obtain ⟨rfl, rfl⟩ := h
  simp only [chkIns] at hc
  split at hc
  · rename_i f' first caps' eo
    simp only [Bool.and_eq_true, beq_iff_eq] at hc
    obtain ⟨⟨rfl, c1⟩, c2⟩ := hc
    have hf : first = #[] := by simpa using c1
    subst hf
    have hl := opds_rep sim c2
    refine .pure hr (v := .func (.func f') #[] (caps'.toList.map a.eval).toArray) ?_ (.func _ _ _ hl.1 hl.2) hH
    have e2 : caps'.map a.eval = (caps'.toList.map a.eval).toArray := by apply Array.ext'; simp
    simp [execOp, eo, Instr.makeFunc, e2]
  · cases hc

end
end Go.Proofs.Abs

namespace Go.Proofs.Abs
open Go
variable [Globs] {D : List Deferred}

section
variable {P : Program} {o : Oper} {a : Act} {C : Ctx} {nt : Nat} {s s' : St} {av : AV}

theorem run_part' {t m off : Nat} {agg : Bool} {vs : List Value} {w : World} (ha : aggIs P t agg = true) (hs : sizeIs P t m = true) (hm : agg = true ∨ m = 1) (hl : off + m ≤ vs.length) :
    (part t vs.toArray off).run P w = .ok (if agg then .agg ((vs.drop off).take m).toArray else ((vs.drop off).take m).headD undef) w := by
  simp only [part, Sem.run_bind, run_isAgg ha, Result.andThen_ok]
  cases agg with
  | true =>
    have : vs.toArray.extract off (off + m) = ((vs.drop off).take m).toArray := by
      apply Array.ext'
      simp [List.extract_eq_take_drop]
    simp [run_sizeOf' hs, this]
  | false =>
    have hm1 : m = 1 := by simpa using hm
    subst hm1
    have : off < vs.length := by omega
    have e : (vs.drop off).take 1 = [vs[off]] := by
      rw [List.drop_eq_getElem_cons this]; rfl
    simp [e, this]

theorem ok_fld {agg : Bool} {off m : Nat} {x : AX} (sim : SimE D nt s.env C a) (hH : C.H = s.heap) (hr : HRep C) (hc : chkIns P o (.fld agg off m x) = true) (h : ains (.fld agg off m x) s = some (av, s')) :
    OpRes C (s.p ++ [s.k]) ((execOp a.eval o).run P C.w) av s'.heap := by
  simp only [ains] at h
  simp only [chkIns] at hc
  split at hc
  · rename_i t x' f eo
    simp only [Bool.and_eq_true] at hc
    obtain ⟨c1, c2⟩ := hc
    split at c2
    · rename_i fs hu
      split at c2
      · rename_i fl hf
        simp only [Bool.and_eq_true, Bool.or_eq_true, beq_iff_eq] at c2
        obtain ⟨⟨⟨rfl, c3⟩, c4⟩, c5⟩ := c2
        have hv := rep_opd sim c1
        split at h
        · rename_i cs e
          rw [e] at hv
          obtain ⟨vs, hx, h1, h2⟩ := hv.agg_inv
          split at h
          · rename_i hle
            cases hof : ofCells agg ((cs.drop fl.offset).take m) with
            | none => rw [hof] at h; simp at h
            | some av' =>
              rw [hof] at h
              simp only [Option.map_some, Option.some.injEq, Prod.mk.injEq] at h
              obtain ⟨rfl, rfl⟩ := h
              have hrun := run_part' (w := C.w) (vs := vs) c3 c4 c5 (by rw [← h1.1]; exact hle)
              rcases ofCells_rep ((h1.drop fl.offset).take m) ((h2.drop fl.offset).take m) hof with ⟨rfl, r⟩ | ⟨rfl, u, hu', r⟩
              · exact .pure hr (by simp [execOp, eo, Instr.field, run_underlying hu, hf, hx, asAgg, hrun]) r hH
              · rw [hu'] at hrun
                exact .pure hr (v := u) (by simp [execOp, eo, Instr.field, run_underlying hu, hf, hx, asAgg, hrun]) r hH
          · cases h
        · cases h
      · cases c2
    · cases c2
  · cases hc

theorem ok_aidx {agg : Bool} {m len : Nat} {x i : AX} (sim : SimE D nt s.env C a) (hH : C.H = s.heap) (hr : HRep C) (hc : chkIns P o (.aidx agg m len x i) = true) (h : ains (.aidx agg m len x i) s = some (av, s')) :
    OpRes C (s.p ++ [s.k]) ((execOp a.eval o).run P C.w) av s'.heap := by
  simp only [ains] at h
  simp only [chkIns] at hc
  split at hc
  · rename_i t x' i' eo
    simp only [Bool.and_eq_true] at hc
    obtain ⟨⟨c1, c2⟩, c3⟩ := hc
    split at c3
    · rename_i len' el hu
      simp only [Bool.and_eq_true, Bool.or_eq_true, beq_iff_eq] at c3
      obtain ⟨⟨⟨rfl, c4⟩, c5⟩, c6⟩ := c3
      have hv := rep_opd sim c1
      have hi := rep_opd sim c2
      split at h
      · rename_i cs k n e1 e2
        rw [e1] at hv
        rw [e2] at hi
        obtain ⟨vs, hx, h1, h2⟩ := hv.agg_inv
        split at h
        · rename_i hn
          cases hof : ofCells agg ((cs.drop (n.toNat * m)).take m) with
          | none => rw [hof] at h; simp at h
          | some av' =>
            rw [hof] at h
            simp only [Option.map_some, Option.some.injEq, Prod.mk.injEq] at h
            obtain ⟨rfl, rfl⟩ := h
            have hrun := run_part' (w := C.w) (vs := vs) c4 c5 c6 (by rw [← h1.1]; exact hn.2.2)
            have hsz := run_sizeOf' c5 (w := C.w)
            rcases ofCells_rep ((h1.drop (n.toNat * m)).take m) ((h2.drop (n.toNat * m)).take m) hof with ⟨rfl, r⟩ | ⟨rfl, u, hu', r⟩
            · exact .pure hr (by simp [execOp, eo, Instr.index, asIntOf, hi.int_inv, run_underlying hu, hx, hn.1, hn.2.1, hsz, hrun]) r hH
            · rw [hu'] at hrun
              exact .pure hr (v := u) (by simp [execOp, eo, Instr.index, asIntOf, hi.int_inv, run_underlying hu, hx, hn.1, hn.2.1, hsz, hrun]) r hH
        · cases h
      · cases h
    · cases c3
  · cases hc

theorem ok_sidx {x i : AX} (sim : SimE D nt s.env C a) (hH : C.H = s.heap) (hr : HRep C) (hc : chkIns P o (.sidx x i) = true) (h : ains (.sidx x i) s = some (av, s')) :
    OpRes C (s.p ++ [s.k]) ((execOp a.eval o).run P C.w) av s'.heap := by
  simp only [ains] at h
  simp only [chkIns] at hc
  split at hc
  · rename_i t x' i' eo
    simp only [Bool.and_eq_true] at hc
    obtain ⟨⟨c1, c2⟩, c3⟩ := hc
    have hv := rep_opd sim c1
    have hi := rep_opd sim c2
    split at h
    · rename_i b k n e1 e2
      rw [e1] at hv
      rw [e2] at hi
      split at h
      · rename_i hn
        cases hb : b[n.toNat]? with
        | none => rw [hb] at h; simp at h
        | some c =>
          rw [hb] at h
          simp only [Option.map_some, Option.some.injEq, Prod.mk.injEq] at h
          obtain ⟨rfl, rfl⟩ := h
          split at c3
          · rename_i hu
            refine .pure hr (v := .int .u8 c.toNat) ?_ (.int _ _) hH
            simp [execOp, eo, Instr.index, asIntOf, hv.str_inv, hi.int_inv, run_underlying hu, hn, hb]
          · cases c3
      · cases h
    · cases h
  · cases hc

theorem ok_iaddr {sz : Nat} {x i : AX} (sim : SimE D nt s.env C a) (hH : C.H = s.heap) (hr : HRep C) (hc : chkIns P o (.iaddr sz x i) = true) (h : ains (.iaddr sz x i) s = some (av, s')) :
    OpRes C (s.p ++ [s.k]) ((execOp a.eval o).run P C.w) av s'.heap := by
  simp only [ains] at h
  simp only [chkIns] at hc
  split at hc
  · rename_i t x' i' eo
    simp only [Bool.and_eq_true] at hc
    obtain ⟨⟨c1, c2⟩, c3⟩ := hc
    split at c3
    · rename_i el hu
      obtain ⟨ti, hti, hsz⟩ := sizeIs_iff c3
      have hv := rep_opd sim c1
      have hi := rep_opd sim c2
      have hrun : ∀ (ad : Addr) (len cap : Nat) (k : IntKind) (n : Int), 0 ≤ n → n < len → (Instr.indexAt t (.slice (some ad) len cap) (.int k n)).run P C.w = .ok (.pointer (some (ad.add (n.toNat * sz)))) C.w := by
        intro ad len cap k n h0 h1
        simp [Instr.indexAt, asIntOf, run_underlying hu, h0, h1, sizeOf, typeInfo, hti, hsz]
      split at h
      · rename_i sz' rows k n e1 e2
        rw [e1] at hv
        rw [e2] at hi
        have hi' := hi.int_inv
        split at h
        · rename_i hcond
          obtain ⟨rfl, hn⟩ := hcond
          cases hrow : rows[n.toNat]? with
          | none => rw [hrow] at h; simp at h
          | some row =>
            rw [hrow] at h
            simp only [Option.map_some, Option.some.injEq, Prod.mk.injEq] at h
            obtain ⟨rfl, rfl⟩ := h
            have hlt := (List.getElem?_eq_some_iff.1 hrow).1
            generalize hx : a.eval x' = xv at hv
            cases hv with
            | list _ _ base cap vals h0 hcap hz hrr hb hf hvv =>
              obtain ⟨ad, rfl, hsp⟩ := hb (by intro h; subst h; simp at hlt)
              have hrl := hrr row (List.mem_of_getElem? hrow)
              refine .pure hr (v := .pointer (some (ad.add (n.toNat * sz')))) ?_ ?_ hH
              · simp [execOp, eo, hx, hi', hrun ad rows.length cap k n hn (by omega)]
              · rw [add_none hsp]
                refine .rp _ _ (fun j => vals (n.toNat * sz' + j)) rfl (fun j av e3 => ?_) (fun j av e3 => ?_)
                · have hj : j < sz' := by have := (List.getElem?_eq_some_iff.1 e3).1; omega
                  have hfl := rows_flat hrr hrow j hj
                  rw [e3] at hfl
                  have := hf _ _ hfl
                  refine ⟨this.1, ?_⟩
                  have h2 := this.2 ad rfl
                  unfold Fro at h2 ⊢
                  simpa [Nat.add_assoc] using h2
                · have hj : j < sz' := by have := (List.getElem?_eq_some_iff.1 e3).1; omega
                  have hfl := rows_flat hrr hrow j hj
                  rw [e3] at hfl
                  exact hvv _ _ hfl
        · cases h
      · rename_i id len k n e1 e2
        rw [e1] at hv
        rw [e2] at hi
        have hi' := hi.int_inv
        split at h
        · rename_i wr fl e sz' rows ho
          rw [← hH] at ho
          split at h
          · rename_i hcond
            obtain ⟨rfl, hlen, hn, hnl⟩ := hcond
            simp only [Option.some.injEq, Prod.mk.injEq] at h
            obtain ⟨rfl, rfl⟩ := h
            generalize hx : a.eval x' = xv at hv
            cases hv with
            | own _ _ _ ha hs hoo =>
              rcases (hoo _ ho).2 hlen with hhd | ⟨hn0, _⟩
              case inr => omega
              obtain ⟨h0, h1, h2, xs, h3, h4⟩ := hr.obj id _ ho
              rcases h3.2 with ⟨hv1, hn1⟩ | ⟨g, cap, cur, hv1, _, hh, hnc, _, hcs, htake⟩
              · omega
              · rw [hv1] at hhd
                refine .pure hr (v := .pointer (some ⟨g, n.toNat * sz', none⟩)) ?_ ?_ hH
                · have := hrun ⟨g, 0, none⟩ rows.length cap k n hn (by omega)
                  rw [add_none rfl] at this
                  simp only [Nat.zero_add] at this
                  simp [execOp, eo, hx, hhd, hi', this]
                · refine .ref _ _ _ _ _ ha ⟨_, rfl⟩ fun ob e3 => ?_
                  rw [ho] at e3
                  injection e3 with e3
                  subst e3
                  exact ⟨by simp [asize]; omega, fun _ => ⟨g, by rw [hv1]; rfl, by simp [cellsz]⟩⟩
          · cases h
        · cases h
      · cases h
    · cases c3
  · cases hc

theorem rowsOf_rep {sz : Nat} {v : AV} {u : Value} {rows : List (List AV)} (hr : HRep C) (h : rowsOf C.H v sz = some rows) (hv : Rep C v u) (hsz : 0 < sz) :
    ∃ base cap, u = .slice base rows.length cap ∧ rows.length ≤ cap ∧ (∀ r ∈ rows, r.length = sz) ∧ Cells rows.flatten ∧
      ∃ xs, RepL C rows.flatten xs ∧ ∀ ad, base = some ad → (rows ≠ [] → ad.spot = none) ∧ ∀ (j : Nat) x, xs[j]? = some x → C.w.cell? (ad.add j) = some x := by
  unfold rowsOf at h
  split at h
  · rename_i sz' rows'
    split at h
    · rename_i hs
      subst hs
      injection h with h
      subst h
      cases hv with
      | list _ _ base cap vals h0 hcap hz hrr hb hf hvv =>
        refine ⟨base, cap, rfl, hcap, hrr, fun j av e => (hf j av e).1, (List.range rows'.flatten.length).map vals, ⟨by simp, fun j av x e1 e2 => ?_⟩, fun ad ead => ⟨fun hne => ?_, fun j x e2 => ?_⟩⟩
        · have hj := (List.getElem?_eq_some_iff.1 e1).1
          rw [List.getElem?_map, List.getElem?_range hj] at e2
          simp only [Option.map_some, Option.some.injEq] at e2
          subst e2
          exact hvv j av e1
        · obtain ⟨ad', h1, h2⟩ := hb hne
          rw [ead] at h1; injection h1 with h1; subst h1; exact h2
        · have hj : j < rows'.flatten.length := by have := (List.getElem?_eq_some_iff.1 e2).1; simpa using this
          have hne : rows' ≠ [] := by intro hh; subst hh; simp at hj
          obtain ⟨ad', h1, h2⟩ := hb hne
          rw [ead] at h1; injection h1 with h1; subst h1
          rw [List.getElem?_map, List.getElem?_range hj] at e2
          simp only [Option.map_some, Option.some.injEq] at e2
          subst e2
          rw [add_none h2]
          exact ((hf j _ (List.getElem?_eq_getElem hj)).2 ad ead).1
    · cases h
  · injection h with h
    subst h
    cases hv
    exact ⟨none, 0, rfl, Nat.le_refl _, by simp, by intro j av; simp, [], .nil, by simp⟩
  · injection h with h
    subst h
    cases hv with
    | emp ad cap => exact ⟨some ad, cap, rfl, Nat.zero_le _, by simp, by intro j av; simp, [], .nil, by simp⟩
  · rename_i id n
    split at h
    · rename_i wr fl e sz' rows' ho
      split at h
      · rename_i hc
        obtain ⟨rfl, hn⟩ := hc
        injection h with h
        subst h
        cases hv with
        | own _ _ _ ha hs hoo =>
          obtain ⟨h0, h1, h2, xs, h3, h4⟩ := hr.obj id _ ho
          rcases (hoo _ ho).2 hn with hhd | ⟨hn0, _, b, rfl⟩
          case inr =>
            have hrz : rows' = [] := List.eq_nil_of_length_eq_zero (by omega)
            subst hrz
            have hxz : xs = [] := List.eq_nil_of_length_eq_zero (by rw [h3.1]; simp)
            subst hxz
            exact ⟨b, 0, rfl, Nat.le_refl _, h1, h2, [], h4, fun ad _ => ⟨fun hne => absurd rfl hne, fun j x e2 => by simp at e2⟩⟩
          rcases h3.2 with ⟨hv1, hn1⟩ | ⟨g, cap, cur, hv1, _, hh, hnc, _, hcs, htake⟩
          · rw [hv1] at hhd
            subst hhd
            exact ⟨none, 0, by rw [hn1], by omega, h1, h2, xs, h4, by simp⟩
          · rw [hv1] at hhd
            subst hhd
            refine ⟨some ⟨g, 0, none⟩, cap, rfl, hnc, h1, h2, xs, h4, fun ad ead => ?_⟩
            injection ead with ead
            subst ead
            refine ⟨fun _ => rfl, fun j x e2 => ?_⟩
            have hj := (List.getElem?_eq_some_iff.1 e2).1
            rw [h3.1] at hj
            rw [← htake, List.getElem?_take, if_pos hj, Array.getElem?_toList] at e2
            rw [add_none rfl]
            simp [World.cell?, hh, e2]
      · cases h
    · cases h
  · cases h

theorem bnd_rep (sim : SimE D nt s.env C a) {x : Option Operand} {y : Option AX} {d n : Nat} (h : opdOKo x y = true) (hb : bnd s.env y d = some n) :
    (x.map a.eval = none ∧ y = none ∧ n = d) ∨ ∃ k, x.map a.eval = some (.int k n) ∧ y.isSome = true := by
  cases x with
  | none =>
    cases y with
    | none => simp only [bnd, Option.some.injEq] at hb; exact .inl ⟨rfl, rfl, hb.symm⟩
    | some y => simp [opdOKo] at h
  | some x =>
    cases y with
    | none => simp [opdOKo] at h
    | some y =>
      simp only [opdOKo] at h
      have hv := rep_opd sim h
      simp only [bnd] at hb
      split at hb
      · rename_i k m e
        split at hb
        · rename_i hm
          injection hb with hb
          rw [e] at hv
          refine .inr ⟨k, ?_, rfl⟩
          simp only [Option.map_some, hv.int_inv]
          congr 2
          omega
        · cases hb
      · cases hb

theorem run_bounds {isSlice : Bool} {len cap l h m : Nat} {lo hi mx : Option Value} (w : World) (hlo : (lo = none ∧ l = 0) ∨ ∃ k, lo = some (.int k l)) (hhi : (hi = none ∧ h = len) ∨ ∃ k, hi = some (.int k h))
    (hmx : (mx = none ∧ m = cap) ∨ ∃ k, mx = some (.int k m)) (hmh : mx ≠ none → hi ≠ none) (h1 : l ≤ h) (h2 : h ≤ m) (h3 : m ≤ cap) : (Instr.sliceBounds isSlice len cap lo hi mx).run P w = .ok (l, h, m) w := by
  have hb : ∀ (k : IntKind) (x y : Nat) (code : BoundsCode), x ≤ y → (Instr.sliceBound (.int k x) y code).run P w = .ok x w := by
    intro k x y code hxy
    have := run_sliceBound (P := P) w k x y code (by omega) (by omega)
    simpa using this
  rcases hmx with ⟨rfl, rfl⟩ | ⟨km, rfl⟩
  · rcases hhi with ⟨rfl, rfl⟩ | ⟨kh, rfl⟩
    · rcases hlo with ⟨rfl, rfl⟩ | ⟨kl, rfl⟩
      · simp [Instr.sliceBounds]
      · simp [Instr.sliceBounds, hb _ _ _ _ h1]
    · rcases hlo with ⟨rfl, rfl⟩ | ⟨kl, rfl⟩
      · simp [Instr.sliceBounds, hb _ _ _ _ h2]
      · simp [Instr.sliceBounds, hb _ _ _ _ h2, hb _ _ _ _ h1]
  · rcases hhi with ⟨rfl, rfl⟩ | ⟨kh, rfl⟩
    · exact absurd rfl (hmh (by simp))
    · rcases hlo with ⟨rfl, rfl⟩ | ⟨kl, rfl⟩
      · simp [Instr.sliceBounds, hb _ _ _ _ h2, hb _ _ _ _ h3]
      · simp [Instr.sliceBounds, hb _ _ _ _ h2, hb _ _ _ _ h1, hb _ _ _ _ h3]

theorem ok_sslc {x : AX} {lo hi : Option AX} (sim : SimE D nt s.env C a) (hH : C.H = s.heap) (hr : HRep C) (hc : chkIns P o (.sslc x lo hi) = true) (h : ains (.sslc x lo hi) s = some (av, s')) :
    OpRes C (s.p ++ [s.k]) ((execOp a.eval o).run P C.w) av s'.heap := by
  simp only [ains] at h
  simp only [chkIns] at hc
  split at hc
  · rename_i t x' lo' hi' eo
    simp only [Bool.and_eq_true] at hc
    obtain ⟨⟨⟨c1, c2⟩, c3⟩, c4⟩ := hc
    have hv := rep_opd sim c1
    split at h
    · rename_i b e
      rw [e] at hv
      split at h
      · rename_i hh ehh
        split at h
        · rename_i ll ell
          split at h
          · rename_i hcond
            simp only [Option.some.injEq, Prod.mk.injEq] at h
            obtain ⟨rfl, rfl⟩ := h
            split at c4
            · rename_i hu
              have b1 := bnd_rep sim c3 ehh
              have b2 := bnd_rep sim c2 ell
              have hrun := run_bounds (P := P) (isSlice := false) (len := b.size) (cap := b.size) (l := ll) (h := hh) (m := b.size) (lo := lo'.map a.eval) (hi := hi'.map a.eval) (mx := none) C.w
                (b2.imp (fun h => ⟨h.1, h.2.2⟩) (fun ⟨k, h, _⟩ => ⟨k, h⟩)) (b1.imp (fun h => ⟨h.1, h.2.2⟩) (fun ⟨k, h, _⟩ => ⟨k, h⟩)) (.inl ⟨rfl, rfl⟩) (by simp) hcond.1 hcond.2 (Nat.le_refl _)
              refine .pure hr (v := .string (b.extract ll hh)) ?_ (.str _) hH
              simp [execOp, eo, hv.str_inv, Instr.sliceAt, run_underlying hu, Instr.slice, hrun]
            · cases c4
          · cases h
        · cases h
      · cases h
    · cases h
  · cases hc

theorem Rep.list_inv {sz : Nat} {rows : List (List AV)} {u : Value} (h : Rep C (.list sz rows) u) : ∃ base cap, u = .slice base rows.length cap := by
  cases h with
  | list _ _ base cap => exact ⟨base, cap, rfl⟩

theorem rep_part {sz : Nat} {rows : List (List AV)} {base : Option Addr} {cap : Nat} (h : Rep C (.list sz rows) (.slice base rows.length cap)) {l h' m : Nat} (h1 : l ≤ h') (h2 : h' ≤ rows.length) (h3 : h' ≤ m) (h4 : m ≤ cap) :
    Rep C (.list sz ((rows.take h').drop l)) (.slice (if m = l then base else base.map (·.add (l * sz))) (h' - l) (m - l)) := by
  cases h with
  | list _ _ _ _ vals h0 hcap hz hrr hb hf hvv =>
    have hlen : ((rows.take h').drop l).length = h' - l := by simp; omega
    have hrr' : ∀ r ∈ (rows.take h').drop l, r.length = sz := fun r hr => hrr r (List.mem_of_mem_take (List.mem_of_mem_drop hr))
    have hfl : ∀ j av, ((rows.take h').drop l).flatten[j]? = some av → rows.flatten[l * sz + j]? = some av := by
      intro j av e
      have hj := (List.getElem?_eq_some_iff.1 e).1
      rw [flat_len hrr', hlen] at hj
      have hdiv : j / sz < h' - l := Nat.div_lt_of_lt_mul (by rw [Nat.mul_comm]; exact hj)
      have hmod : j % sz < sz := Nat.mod_lt _ h0
      have ej : j = (j / sz) * sz + j % sz := by rw [Nat.mul_comm]; exact (Nat.div_add_mod j sz).symm
      have hrow : ((rows.take h').drop l)[j / sz]? = rows[l + j / sz]? := by
        rw [List.getElem?_drop, List.getElem?_take, if_pos (by omega)]
      have hlt : l + j / sz < rows.length := by omega
      have hrow2 : rows[l + j / sz]? = some rows[l + j / sz] := List.getElem?_eq_getElem hlt
      rw [hrow2] at hrow
      have f1 := rows_flat hrr' hrow (j % sz) hmod
      rw [← ej, e] at f1
      have f2 := rows_flat hrr hrow2 (j % sz) hmod
      rw [← f1] at f2
      rw [← f2, Nat.add_mul]
      congr 1
      omega
    have key := Rep.list (C := C) sz ((rows.take h').drop l) (if m = l then base else base.map (·.add (l * sz))) (m - l) (fun j => vals (l * sz + j)) h0 (by omega) (fun he => by
      have hbn : base = none := by
        split at he
        · exact he
        · cases base with
          | none => rfl
          | some ad => cases he
      have := hz hbn
      omega) hrr' (fun hne => ?_) (fun j av e => ⟨(hf _ _ (hfl j av e)).1, fun ad ead => ?_⟩) (fun j av e => hvv _ _ (hfl j av e))
    · rwa [hlen] at key
    · have hne' : rows ≠ [] := by intro hh; subst hh; simp at hne
      obtain ⟨ad, rfl, hsp⟩ := hb hne'
      have hml : m ≠ l := by
        intro hh
        apply hne
        apply List.eq_nil_of_length_eq_zero
        omega
      exact ⟨ad.add (l * sz), by simp [hml], by rw [add_none hsp]⟩
    · have hj := (List.getElem?_eq_some_iff.1 e).1
      rw [flat_len hrr', hlen] at hj
      have hml : m ≠ l := by
        intro hh
        have h0' : h' - l = 0 := by omega
        rw [h0', Nat.zero_mul] at hj
        exact Nat.not_lt_zero _ hj
      have hne' : rows ≠ [] := by
        intro hh
        subst hh
        have h0' : h' - l = 0 := by simp at h2; omega
        rw [h0', Nat.zero_mul] at hj
        exact Nat.not_lt_zero _ hj
      obtain ⟨ad0, rfl, hsp⟩ := hb hne'
      rw [if_neg hml] at ead
      injection ead with ead
      have := (hf _ _ (hfl j av e)).2 ad0 rfl
      subst ead
      show Fro C (ad0.add (l * sz)) j _
      rw [add_none hsp]
      unfold Fro at this ⊢
      simpa [Nat.add_assoc] using this

theorem ok_slc {sz : Nat} {x : AX} {lo hi mx : Option AX} (sim : SimE D nt s.env C a) (hH : C.H = s.heap) (hr : HRep C) (hc : chkIns P o (.slc sz x lo hi mx) = true) (h : ains (.slc sz x lo hi mx) s = some (av, s')) :
    OpRes C (s.p ++ [s.k]) ((execOp a.eval o).run P C.w) av s'.heap := by
  simp only [ains] at h
  simp only [chkIns] at hc
  split at hc
  · rename_i t x' lo' hi' mx' eo
    simp only [Bool.and_eq_true] at hc
    obtain ⟨⟨⟨⟨⟨⟨c1, c2⟩, c3⟩, c4⟩, c5⟩, c6⟩, c7⟩ := hc
    have hsz0' : 0 < sz := of_decide_eq_true c7
    split at c5
    · rename_i el hu
      have hv := rep_opd sim c1
      split at h
      · rename_i rows erows
        rw [← hH] at erows
        split at h
        · rename_i hh ehh
          split at h
          · rename_i ll ell
            split at h
            · rename_i mm emm
              split at h
              · rename_i hcond
                obtain ⟨hc1, hc2, hc3⟩ := hcond
                have b1 := bnd_rep sim c3 ehh
                have b2 := bnd_rep sim c2 ell
                have b3 := bnd_rep sim c4 emm
                have hrunS : ∀ base cap, rows.length ≤ cap → a.eval x' = .slice base rows.length cap → ∃ m, (m = mm ∨ m = cap) ∧ (execOp a.eval o).run P C.w = .ok (.value (.slice (if m = ll then base else base.map (·.add (ll * sz))) (hh - ll) (m - ll))) C.w ∧ hh ≤ m ∧ m ≤ cap ∧ (lo = none → hi = none → mx = none → ll = 0 ∧ hh = rows.length ∧ m = cap) ∧ (mx = none → m = cap) := by
                  intro base cap hcap hx
                  rcases b3 with ⟨e3, e3', e3''⟩ | ⟨k3, e3, e3'⟩
                  · have hrun := run_bounds (P := P) (isSlice := true) (len := rows.length) (cap := cap) (l := ll) (h := hh) (m := cap) (lo := lo'.map a.eval) (hi := hi'.map a.eval) (mx := none) C.w
                      (b2.imp (fun h => ⟨h.1, h.2.2⟩) (fun ⟨k, h, _⟩ => ⟨k, h⟩)) (b1.imp (fun h => ⟨h.1, h.2.2⟩) (fun ⟨k, h, _⟩ => ⟨k, h⟩)) (.inl ⟨rfl, rfl⟩) (by simp) hc1 (by omega) (Nat.le_refl _)
                    refine ⟨cap, .inr rfl, ?_, by omega, Nat.le_refl _, fun h1 h2 _ => ⟨?_, ?_, rfl⟩, fun _ => rfl⟩
                    · simp [execOp, eo, hx, e3, Instr.sliceAt, run_underlying hu, Instr.slice, hrun, run_sizeOf' c5]
                    · subst h1; simp [bnd] at ell; omega
                    · subst h2; simp [bnd] at ehh; omega
                  · have hhi : hi.isSome = true := by
                      cases mx with
                      | none => cases e3'
                      | some y => simpa using c6
                    have hrun := run_bounds (P := P) (isSlice := true) (len := rows.length) (cap := cap) (l := ll) (h := hh) (m := mm) (lo := lo'.map a.eval) (hi := hi'.map a.eval) (mx := mx'.map a.eval) C.w
                      (b2.imp (fun h => ⟨h.1, h.2.2⟩) (fun ⟨k, h, _⟩ => ⟨k, h⟩)) (b1.imp (fun h => ⟨h.1, h.2.2⟩) (fun ⟨k, h, _⟩ => ⟨k, h⟩)) (.inr ⟨k3, e3⟩)
                      (fun _ => by
                        rcases b1 with ⟨_, hn, _⟩ | ⟨k, hk, _⟩
                        · rw [hn] at hhi; cases hhi
                        · rw [hk]; simp) hc1 (by omega) (by omega)
                    refine ⟨mm, .inl rfl, ?_, by omega, by omega, fun _ _ h3 => ?_, fun h3 => ?_⟩
                    · simp [execOp, eo, hx, Instr.sliceAt, run_underlying hu, Instr.slice, hrun, run_sizeOf' c5]
                    · rw [h3] at e3'; cases e3'
                    · rw [h3] at e3'; cases e3'
                split at h
                · rename_i id n ev
                  split at h
                  · rename_i hwhole
                    obtain ⟨hl0, hhn, hmn⟩ := hwhole
                    simp only [Option.some.injEq, Prod.mk.injEq] at h
                    obtain ⟨rfl, rfl⟩ := h
                    have hsz0 : ∃ wr fl e rows', hget C.H id = some (.row wr fl e sz rows') ∧ rows'.length = n ∧ rows' = rows := by
                      rw [ev] at erows
                      simp only [rowsOf] at erows
                      split at erows
                      · rename_i wr fl e sz' rows' ho
                        split at erows
                        · rename_i hcc
                          obtain ⟨rfl, hn⟩ := hcc
                          injection erows with erows
                          exact ⟨wr, fl, e, rows', ho, hn, erows⟩
                        · cases erows
                      · cases erows
                    obtain ⟨wr, fl, e, rows', ho, hn', rfl⟩ := hsz0
                    have h0 := (hr.obj id _ ho).1
                    obtain ⟨base, cap, hu', hcap, _⟩ := rowsOf_rep hr erows hv h0
                    obtain ⟨m, _, hrun, _, _, _, hm⟩ := hrunS base cap hcap hu'
                    have hmc := hm (by simpa using hmn)
                    subst hmc
                    rw [ev] at hv
                    refine .pure hr (v := a.eval x') ?_ (by rw [ev]; exact hv) hH
                    rw [hrun, hu', hl0]
                    simp only [Nat.zero_mul, Nat.sub_zero]
                    have hb : (if m = 0 then base else base.map fun x => x.add 0) = base := by
                      split
                      · rfl
                      · cases base <;> simp [Addr.add]
                    rw [hb, hhn, hn']
                  · split at h
                    · rename_i sz2 rows' H ef
                      simp only [Option.some.injEq, Prod.mk.injEq] at h
                      obtain ⟨rfl, rfl⟩ := h
                      obtain ⟨f1, _, f3⟩ := fzd_ok 4 _ _ _ _ ef
                      rw [← hH] at f1
                      have hfv := f3 C (a.eval x') hH hr hv
                      have hsz0 : ∃ wr fl e rows', hget C.H id = some (.row wr fl e sz rows') ∧ rows'.length = n := by
                        rw [ev] at erows
                        simp only [rowsOf] at erows
                        split at erows
                        · rename_i wr fl e sz' rows' ho
                          split at erows
                          · rename_i hcc
                            obtain ⟨rfl, hn⟩ := hcc
                            exact ⟨wr, fl, e, rows', ho, hn⟩
                          · cases erows
                        · cases erows
                      obtain ⟨wr, fl, e, rows0, ho, hn'⟩ := hsz0
                      have h0 := (hr.obj id _ ho).1
                      obtain ⟨base, cap, hu', hcap, _⟩ := rowsOf_rep hr erows hv h0
                      obtain ⟨m, _, hrun, hm1, hm2, _, _⟩ := hrunS base cap hcap hu'
                      rw [hu'] at hfv
                      have hlen : rows'.length = rows.length := by
                        obtain ⟨b', c', hbc⟩ := hfv.list_inv
                        injection hbc with _ h2 _
                        exact h2.symm
                      have hsz2 : sz2 = sz := by
                        have hef := ef
                        rw [← hH] at hef
                        rw [ev] at hef
                        unfold fz fzd at hef
                        simp only [ho] at hef
                        cases fl with
                        | true =>
                          simp only [hn', if_true, Option.some.injEq, Prod.mk.injEq, AV.list.injEq] at hef
                          exact hef.1.1.symm
                        | false =>
                          simp only [hn', if_true] at hef
                          split at hef
                          · simp only [Option.some.injEq, Prod.mk.injEq, AV.list.injEq] at hef
                            exact hef.1.1.symm
                          · cases hef
                      subst hsz2
                      rw [← hlen] at hfv
                      have hp := rep_part hfv hc1 (by omega) hm1 hm2
                      exact .flag hr (by rw [hH] at f1; rw [hH]; exact f1) hrun hp
                    · cases h
                · rename_i hno
                  simp only [Option.some.injEq, Prod.mk.injEq] at h
                  obtain ⟨rfl, rfl⟩ := h
                  obtain ⟨base, cap, hu', hcap, _⟩ := rowsOf_rep hr erows hv hsz0'
                  have hvl : Rep C (.list sz rows) (.slice base rows.length cap) := by
                    generalize AX.ev s.env x = xe at hv erows hno
                    unfold rowsOf at erows
                    split at erows
                    · split at erows
                      · rename_i hs
                        subst hs
                        injection erows with erows
                        subst erows
                        rw [hu'] at hv
                        exact hv
                      · cases erows
                    · injection erows with erows
                      subst erows
                      rw [hu'] at hv
                      have hb0 : base = none ∧ cap = 0 := by
                        generalize hl : ([] : List (List AV)).length = l0 at hv
                        cases hv
                        exact ⟨rfl, rfl⟩
                      exact .list sz [] base cap (fun _ => undef) hsz0' (Nat.zero_le _) (fun _ => hb0.2) (by simp) (by simp) (by simp) (by simp)
                    · injection erows with erows
                      subst erows
                      rw [hu'] at hv
                      have hb0 : base ≠ none := by
                        generalize hl : ([] : List (List AV)).length = l0 at hv
                        cases hv
                        simp
                      exact .list sz [] base cap (fun _ => undef) hsz0' (Nat.zero_le _) (fun h => absurd h hb0) (by simp) (by simp) (by simp) (by simp)
                    · rename_i id n
                      exact absurd rfl (hno id n)
                    · cases erows
                  obtain ⟨m, _, hrun, hm1, hm2, _, _⟩ := hrunS base cap hcap hu'
                  exact .pure hr hrun (rep_part hvl hc1 (by omega) hm1 hm2) hH
              · cases h
            · cases h
          · cases h
        · cases h
      · cases h
    · cases c5
  · cases hc

theorem ok_zap {elem sz : Nat} {x : AX} (sim : SimE D nt s.env C a) (hH : C.H = s.heap) (hr : HRep C) (hq : ∀ id, (s.p ++ [s.k]) <+: id → C.Av id) (hc : chkIns P o (.zap elem sz x) = true) (h : ains (.zap elem sz x) s = some (av, s')) :
    OpRes C (s.p ++ [s.k]) ((execOp a.eval o).run P C.w) av s'.heap := by
  simp only [ains] at h
  simp only [chkIns] at hc
  split at hc
  · rename_i t x' k1 k2 eo
    simp only [Bool.and_eq_true, decide_eq_true_eq] at hc
    obtain ⟨⟨c1, c2⟩, h0⟩ := hc
    have hv := rep_opd sim c1
    split at c2
    · rename_i el hu
      simp only [Bool.and_eq_true, beq_iff_eq] at c2
      obtain ⟨rfl, c2⟩ := c2
      split at h
      · rename_i rows erows
        simp only [Option.some.injEq, Prod.mk.injEq] at h
        obtain ⟨rfl, rfl⟩ := h
        rw [← hH] at erows
        obtain ⟨base, cap, hxv, hcap, _⟩ := rowsOf_rep hr erows hv h0
        have hrun := run_bounds (P := P) (isSlice := true) (len := rows.length) (cap := cap) (l := 0) (h := 0) (m := 0) (lo := none) (hi := some (.int k1 0)) (mx := some (.int k2 0)) C.w
          (.inl ⟨rfl, rfl⟩) (.inr ⟨k1, rfl⟩) (.inr ⟨k2, rfl⟩) (by simp) (Nat.le_refl _) (Nat.zero_le _) (Nat.zero_le _)
        have hex : (execOp a.eval o).run P C.w = .ok (.value (.slice base 0 0)) C.w := by
          have e1 : a.eval (.const (.int k1 0)) = .int k1 0 := rfl
          have e2 : a.eval (.const (.int k2 0)) = .int k2 0 := rfl
          simp [execOp, eo, hxv, Instr.sliceAt, run_underlying hu, Instr.slice, e1, e2, hrun, run_sizeOf' c2]
        refine OpRes.new' (nv0 := .slice base 0 0) (o := .row true true el sz []) (v := .slice none 0 0) (w := C.w) hr hq ⟨rfl, rfl⟩ (Ext.refl C) hex (by simp [St.add, hH]) (Nat.le_refl _) (fun _ _ => rfl) rfl rfl rfl (by simp [blk]) (fun _ => ?_) (fun _ => ?_)
        · refine .own _ 0 _ (fun h => h.2 (List.prefix_refl _)) ⟨_, _, _, rfl⟩ fun o' e => ?_
          have e' : hget (hadd C.H (s.p ++ [s.k]) (.row true true el sz [])) (s.p ++ [s.k]) = some o' := e
          rw [hget_hadd, if_pos rfl] at e'
          injection e' with e'
          subst e'
          exact ⟨by simp [asize], fun _ => .inr ⟨rfl, put_self _ _ _ _ _ _, base, rfl⟩⟩
        · refine ⟨h0, by simp, by intro j av; simp, [], ?_, .nil⟩
          rw [put_self]
          exact World.ownsRow_nil _ _ _ _
      · cases h
    · cases c2
  · cases hc

theorem ok_isnil {neg : Bool} {x : AX} (sim : SimE D nt s.env C a) (hH : C.H = s.heap) (hr : HRep C) (hc : chkIns P o (.isnil neg x) = true) (h : ains (.isnil neg x) s = some (av, s')) :
    OpRes C (s.p ++ [s.k]) ((execOp a.eval o).run P C.w) av s'.heap := by
  simp only [ains] at h
  simp only [chkIns] at hc
  split at hc
  · rename_i op t x' yt eo
    simp only [Bool.and_eq_true, decide_eq_true_eq] at hc
    obtain ⟨⟨c1, c2⟩, c3⟩ := hc
    have hv := rep_opd sim c1
    split at c2
    · rename_i el hu
      have run : ∀ (base : Option Addr) (l c : Nat), a.eval x' = .slice base l c → (execOp a.eval o).run P C.w = .ok (.value (.bool (if neg then !base.isNone else base.isNone))) C.w := by
        intro base l c hx
        have he := run_equal_slice_nil (P := P) C.w t el base l c hu
        have e0 : a.eval (.const (.slice none 0 0)) = .slice none 0 0 := rfl
        have hg : ∀ b : Value, (eqGuard op t x' (.const (.slice none 0 0)) (.slice base l c) b).run P C.w = .ok () C.w := by
          intro b
          cases op <;> simp [eqGuard]
        cases neg with
        | true =>
          simp only [if_true] at c3 ⊢
          subst c3
          simp [execOp, eo, hx, e0, hg, binOp, he]
        | false =>
          simp only [Bool.false_eq_true, if_false] at c3 ⊢
          subst c3
          simp [execOp, eo, hx, e0, hg, binOp, he]
      have fin : ∀ (b : Bool) (base : Option Addr) (l c : Nat), a.eval x' = .slice base l c → base.isNone = b → some (AV.bool (if neg then !b else b), s) = some (av, s') → OpRes C (s.p ++ [s.k]) ((execOp a.eval o).run P C.w) av s'.heap := by
        intro b base l c hx hb h
        simp only [Option.some.injEq, Prod.mk.injEq] at h
        obtain ⟨rfl, rfl⟩ := h
        subst hb
        exact .pure hr (run base l c hx) (.bool _) hH
      generalize hxv : a.eval x' = xv at hv
      split at h
      · rename_i ex
        rw [ex] at hv
        cases hv
        exact fin true none 0 0 hxv rfl (by rw [← h]; cases neg <;> rfl)
      · rename_i ex
        rw [ex] at hv
        cases hv with
        | emp ad cap => exact fin false (some ad) 0 cap hxv rfl (by rw [← h]; cases neg <;> rfl)
      · rename_i sz r0 rows ex
        rw [ex] at hv
        cases hv with
        | list _ _ base cap vals h0 hcap hz hrr hb hf hvv =>
          obtain ⟨ad, hba, _⟩ := hb (by simp)
          subst hba
          exact fin false (some ad) _ cap hxv rfl (by rw [← h]; cases neg <;> rfl)
      · rename_i id n ex
        rw [ex] at hv
        split at h
        · rename_i wr fl e sz' rows ho
          rw [← hH] at ho
          split at h
          · rename_i hcond
            cases hv with
            | own _ _ _ ha hs hoo =>
              rcases (hoo _ ho).2 hcond.1 with hhd | ⟨hn0, _⟩
              case inr => omega
              obtain ⟨h0, h1, h2, xs, h3, h4⟩ := hr.obj id _ ho
              rcases h3.2 with ⟨hv1, hn1⟩ | ⟨g, cap, cur, hv1, _⟩
              · omega
              · rw [hv1] at hhd
                exact fin false _ _ _ (hxv.trans hhd) rfl (by rw [← h]; cases neg <;> rfl)
          · cases h
        · cases h
      · cases h
    · cases c2
  · cases hc

end
end Go.Proofs.Abs
