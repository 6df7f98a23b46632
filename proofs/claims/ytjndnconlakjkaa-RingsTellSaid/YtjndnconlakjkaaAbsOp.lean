/- The operations of the abstract evaluator. -/
import Derived.Test.YtjndnconlakjkaaAbsDom
namespace Go.Abs

/-- An operand: a slot; a slot whose content is used up if it is a slice of its own; a constant; a function. -/
inductive X where | s (i : Nat) | t (i : Nat) | c (v : V) | f (n : Nat)
  deriving Inhabited

inductive Cv where | int (k : IntKind) | bytesStr | strBytes | same
  deriving DecidableEq

/-- A flat field. -/
inductive Fl where | int | bool | str
  deriving DecidableEq, Inhabited
/-- What '==' is asked of. -/
inductive TC where | other | bool | struct (fs : List Fl) | ptr | slice | func | iface
  deriving Inhabited

inductive IOp where
  | mov (x : X)
  | nilck (x : X)
  | pick (c a b : X)
  | alloc (zero : List C)
  | box (n : Nat) (x : X)
  | build (zero : List C) (parts : List (Nat × Nat × X))
  | bslice (sz : Nat) (rows : List (List D)) (parts : List (Nat × X))
  | load (n : Nat) (agg : Bool) (x : X)
  | store (mv : Bool) (n : Nat) (x v : X)
  | bin (tc : TC) (op : BinOp) (x y : X)
  | un (op : UnOp) (x : X)
  | conv (c : Cv) (x : X)
  | mkfn (f : Nat) (first cap : List X)
  | mkslice (sz bytes : Nat) (zero : List D) (l c : X)
  | sliceS (x : X) (lo hi : Option X)
  | slice (sz : Nat) (x : X) (lo hi mx : Option X)
  | fieldA (off : Nat) (x : X)
  | field (off n : Nat) (agg : Bool) (x : X)
  | indexA (sz : Nat) (x i : X)
  | indexR (n sz : Nat) (x i : X)
  | index (x i : X)
  | extract (j : Nat) (x : X)
  | len (str : Bool) (x : X)
  | app (sz bytes : Nat) (x y : X)
  | appS (x y : X)
  | min (x y : X)
  | max (x y : X)
  | call (f : X) (args : List (Bool × X))
  | mkif (x : X)
  | bad
  deriving Inhabited

def C.own : C → Bool
  | .d (.sl .own _ _) => true
  | .appd .. => true
  | _ => false
def V.cells : V → List C
  | .one c => [c]
  | .agg cs => cs
  | .tup _ => []
def V.own (v : V) : Bool := v.cells.any C.own

mutual
/-- The same, by nobody written any more. -/
def plainD : D → D
  | .int k n => .int k n
  | .bool b => .bool b
  | .str s => .str s
  | .sl .own sz rows => .sl (.im false) sz (plainRs rows)
  | .sl (.im b) sz rows => .sl (.im b) sz rows
  | .dead => .dead
def plainR : List D → List D
  | [] => []
  | d :: t => plainD d :: plainR t
def plainRs : List (List D) → List (List D)
  | [] => []
  | r :: t => plainR r :: plainRs t
end

def C.plain : C → C
  | .d x => .d (plainD x)
  | c => c
def V.plain : V → V
  | .one c => .one c.plain
  | .agg cs => .agg (cs.map C.plain)
  | .tup vs => .tup vs

/-- What a reading of a cell gives: of a slice of its own, a view. -/
def C.look (k : Key) (g j : Nat) : C → C
  | .d (.sl .own sz rows) => .view ⟨k, j, []⟩ g sz 0 rows.length
  | .appd .. => .dead
  | c => c
def lookL (k : Key) (g : Nat) : Nat → List C → List C
  | _, [] => []
  | j, c :: cs => c.look k g j :: lookL k g (j + 1) cs
def V.look (k : Key) (g : Nat) : V → V
  | .one c => .one (c.look k g 0)
  | .agg cs => .agg (lookL k g 0 cs)
  | .tup vs => .tup vs

def Key.isPl' : Key → Bool
  | .s _ => true
  | .b _ _ => true
  | _ => false

def navD : D → List (Nat × Nat) → Option D
  | d, [] => some d
  | .sl .own _ rows, (i, c) :: p => ((rows[i]?).bind (·[c]?)).bind (navD · p)
  | _, _ :: _ => none

def setD (x : D) (p : List (Nat × Nat)) (y : D) : D :=
  match p with
  | [] => y
  | (i, c) :: p =>
    match x with
    | .sl .own sz rows => .sl .own sz (rows.set i ((rows.getD i []).set c (setD (((rows.getD i [])).getD c (.bool false)) p y)))
    | x => x

def V.setCell (v : V) (j : Nat) (c : C) : V :=
  match v with
  | .one c0 => if j = 0 then .one c else .one c0
  | .agg cs => .agg (cs.set j c)
  | .tup vs => .tup vs

/-- No slice. -/
def D.flat : D → Bool
  | .sl .. => false
  | .dead => false
  | _ => true
def C.flat : C → Bool
  | .d x => x.flat
  | _ => false
def V.flat : V → Bool
  | .one c => c.flat
  | .agg cs => cs.all C.flat
  | .tup vs => go vs
where go : List V → Bool
  | [] => true
  | v :: t => v.flat && go t

def rd : X → Q V
  | .s i => do let e ← Q.at_ (.s i); pure (e.v.look (.s i) e.g)
  | .t i => do let e ← Q.at_ (.s i); pure (e.v.look (.s i) e.g)
  | .c v => pure v
  | .f n => pure (.one (.fn n [] []))

/-- Writes that are under way, the newest first. -/
def setWr (ws : List Wr) (k : Key) (v : V) : List Wr := { k, v } :: ws
def getWr : List Wr → Key → Option V
  | [], _ => none
  | x :: t, k => if x.k = k then some x.v else getWr t k
/-- An entry as the writes under way leave it; its count as it was. -/
def atP (ws : List Wr) (k : Key) : Q Ent := do
  let e ← Q.at_ k
  match getWr ws k with
  | some v => pure ⟨v, e.g⟩
  | none => pure e

/-- Nothing has been written there in this operation. -/
def fresh (ws : List Wr) (k : Key) : Bool := (getWr ws k).isNone && (getWr ws (.a k)).isNone

def tk (ws : List Wr) : X → Q (V × List Wr)
  | .t i => do
    let e ← Q.at_ (.s i)
    Q.guard (getWr ws (.s i)).isNone
    if e.v.own then pure (e.v, setWr ws (.s i) V.dead) else pure (e.v, ws)
  | x => do let v ← rd x; pure (v, ws)

def navQ : D → List (Nat × Nat) → Q D
  | d, [] => pure d
  | .sl .own _ rows, (i, c) :: p => do
    let row ← Q.ofO rows[i]?
    let y ← Q.ofO row[c]?
    let y ← Q.asOwn y
    navQ y p
  | _, _ :: _ => Q.no

/-- The content of a place, which must be a slice of its own, with its entry. -/
def ownAt (ws : List Wr) (pl : Place) (g sz : Nat) : Q (Ent × D × List (List D)) := do
  let e ← atP ws pl.k
  Q.guard (e.g == g)
  match e.v.cells[pl.j]? with
  | some (.d x) => do
    let y ← navQ x pl.p
    match y with
    | .sl .own sz' rows => do Q.guard (sz' == sz); pure (e, x, rows)
    | _ => Q.no
  | _ => Q.no

/-- Fit to be stored: of a view a copy, and what it looks at is written by nobody any more. -/
def st (ws : List Wr) : C → Q (C × List Wr)
  | .view pl g sz off len => do
    let (e, x, rows) ← ownAt ws pl g sz
    Q.guard (decide (off + len ≤ rows.length))
    pure (.d (.sl (.im false) sz (plainRs ((rows.drop off).take len))), setWr ws pl.k (e.v.setCell pl.j (.d (setD x pl.p (.sl (.im false) sz (plainRs rows))))))
  | .appd pl g a sz rows => do
    let (e, x, old) ← ownAt ws pl g sz
    let ea ← Q.at_ (.a pl.k)
    Q.guard (ea.g == a && fresh ws pl.k)
    pure (.d (.sl (.im false) sz (plainRs rows)), setWr ws pl.k (e.v.setCell pl.j (.d (setD x pl.p (.sl (.im false) sz (plainRs old))))))
  | .eptr .. => Q.no
  | .dead => Q.no
  | c => pure (c, ws)
def stL (ws : List Wr) : List C → Q (List C × List Wr)
  | [] => pure ([], ws)
  | c :: cs => do
    let (c', ws) ← st ws c
    let (cs', ws) ← stL ws cs
    pure (c' :: cs', ws)

/-- What lay at a place has been handed on. -/
def killAt (v : V) (pl : Place) (x : D) : V := v.setCell pl.j (.d (setD x pl.p .dead))

/-- What was appended to a slice, as a slice of its own. -/
def settle (ws : List Wr) (pl : Place) (g a sz : Nat) (rows : List (List D)) : Q (C × List Wr) := do
  let (e, x, _) ← ownAt ws pl g sz
  let ea ← Q.at_ (.a pl.k)
  Q.guard (ea.g == a && fresh ws pl.k)
  pure (.d (.sl .own sz rows), setWr ws pl.k (killAt e.v pl x))

/-- The same, for this place: what was appended to it stays its own. -/
def stAt (ws : List Wr) (P : Place) : C → Q (C × List Wr)
  | .appd pl g a sz rows => if pl = P then settle ws pl g a sz rows else st ws (.appd pl g a sz rows)
  | c => st ws c

def Key.mine : Key → Bool
  | .b (.e _) _ => false
  | _ => true

/-- What is handed on whole is the new place's own. -/
def stMv (ws : List Wr) (P : Place) : C → Q (C × List Wr)
  | .view pl g sz off len => do
    let (e, x, rows) ← ownAt ws pl g sz
    let t ← Q.ask (off == 0 && len == rows.length && !(pl.k == P.k) && pl.k.mine && (!rows.isEmpty || (getWr ws pl.k).isNone))
    if t then
      pure (.d (.sl .own sz rows), setWr ws pl.k (killAt e.v pl x))
    else st ws (.view pl g sz off len)
  | .appd pl g a sz rows =>
    if !(pl.k == P.k) && pl.k.mine then settle ws pl g a sz rows
    else stAt ws P (.appd pl g a sz rows)
  | c => st ws c

def mkV (agg : Bool) (cs : List C) : Q V :=
  if agg then pure (.agg cs) else match cs with
    | [c] => pure (.one c)
    | _ => Q.no

def readCells (r : Root) : Nat → Nat → Q (List C)
  | _, 0 => pure []
  | c, n + 1 => do
    let e ← Q.at_ (.b r c)
    match e.v with
    | .one x => do let t ← readCells r (c + 1) n; pure (x.look (.b r c) e.g 0 :: t)
    | _ => Q.no

/-- What lies at a place, as it is read. -/
def lookD (pl : Place) (g : Nat) : D → C
  | .sl .own sz rows => .view pl g sz 0 rows.length
  | y => .d y
/-- The cells of a row of a slice of its own. -/
def lookRow (pl : Place) (g i : Nat) : Nat → List D → List C
  | _, [] => []
  | c, x :: t => lookD (pl.sub i c) g x :: lookRow pl g i (c + 1) t

def cellWrs (r : Root) : Nat → List C → List Wr → List Wr
  | _, [], ws => ws
  | c, x :: t, ws => cellWrs r (c + 1) t ({ k := .b r c, v := .one x } :: ws)

def boxed (dst : Nat) (cs : List C) (ws : List Wr) : Q (V × List Wr) := do
  let e ← atP ws (.r (.l dst))
  Q.guard (boxN e.v == 0 || boxN e.v == cs.length)
  pure (.one (.ptr (.l dst) (e.g + 1) 0), cellWrs (.l dst) 0 cs ({ k := .r (.l dst), v := sizeV cs.length } :: ws))

def splice {α : Type} (l : List α) (off : Nat) (cs : List α) : List α := l.take off ++ cs ++ l.drop (off + cs.length)

def evParts (ws : List Wr) : List C → List (Nat × Nat × X) → Q (List C × List Wr)
  | cells, [] => pure (cells, ws)
  | cells, (off, n, x) :: rest => do
    let (v, ws) ← tk ws x
    let (cs, ws) ← stL ws v.cells
    Q.guard (cs.length == n && decide (off + n ≤ cells.length))
    evParts ws (splice cells off cs) rest

def dataL : List C → Option (List D)
  | [] => some []
  | .d x :: t => (dataL t).map (x :: ·)
  | _ :: _ => none

def evRows (sz : Nat) (ws : List Wr) : List (List D) → List (Nat × X) → Q (List (List D) × List Wr)
  | rows, [] => pure (rows, ws)
  | rows, (i, x) :: rest => do
    let (v, ws) ← tk ws x
    let (cs, ws) ← stL ws v.cells
    let row ← Q.ofO (dataL cs)
    Q.guard (row.length == sz && decide (i < rows.length))
    evRows sz ws (rows.set i row) rest

def D.strB : List UInt8 → List (List D) := fun s => s.map fun b => [.int .u8 b.toNat]
def toBytes : List (List D) → Option (List UInt8)
  | [] => some []
  | [.int .u8 n] :: t => (toBytes t).map (UInt8.ofNat n.toNat :: ·)
  | _ :: _ => none

def bytesLess : List UInt8 → List UInt8 → Bool
  | _, [] => false
  | [], _ :: _ => true
  | a :: x, b :: y => a < b || (a == b && bytesLess x y)

def strOp (op : BinOp) (x y : List UInt8) : Option D :=
  match op with
  | .add => if x.length + y.length ≤ 9223372036854775807 then some (.str (x ++ y)) else none
  | .eql => some (.bool (x == y))
  | .neq => some (.bool (!(x == y)))
  | .lss => some (.bool (bytesLess x y))
  | .leq => some (.bool (bytesLess x y || x == y))
  | .gtr => some (.bool (!(bytesLess x y || x == y)))
  | .geq => some (.bool (!bytesLess x y))
  | _ => none

def intOp (op : BinOp) (k : IntKind) (x y : Int) : Option D :=
  match op with
  | .add => some (.int k (k.wrap (x + y)))
  | .sub => some (.int k (k.wrap (x - y)))
  | .mul => some (.int k (k.wrap (x * y)))
  | .quo => if y = 0 then none else some (.int k (k.wrap (x.tdiv y)))
  | .rem => if y = 0 then none else some (.int k (x.tmod y))
  | .and => some (.int k (k.wrap (BitVec.ofInt k.bits x &&& BitVec.ofInt k.bits y).toNat))
  | .or => some (.int k (k.wrap (BitVec.ofInt k.bits x ||| BitVec.ofInt k.bits y).toNat))
  | .xor => some (.int k (k.wrap (BitVec.ofInt k.bits x ^^^ BitVec.ofInt k.bits y).toNat))
  | .andNot => some (.int k (k.wrap (BitVec.ofInt k.bits x &&& ~~~(BitVec.ofInt k.bits y)).toNat))
  | .eql => some (.bool (x == y))
  | .neq => some (.bool (x != y))
  | .lss => some (.bool (decide (x < y)))
  | .leq => some (.bool (decide (x ≤ y)))
  | .gtr => some (.bool (decide (x > y)))
  | .geq => some (.bool (decide (x ≥ y)))
  | _ => none

def shiftOp (op : BinOp) (k : IntKind) (x y : Int) : Option D :=
  if y < 0 then none else
  match op with
  | .shl => some (.int k (k.wrap (x * 2 ^ (Min.min y.toNat k.bits))))
  | .shr => some (.int k (x.fdiv (2 ^ (Min.min y.toNat k.bits))))
  | _ => none

def eqFlat : List Fl → List C → List C → Option Bool
  | [], [], [] => some true
  | .int :: r, .d (.int k x) :: s, .d (.int k' y) :: t => if k = k' then (eqFlat r s t).map (x == y && ·) else none
  | .bool :: r, .d (.bool x) :: s, .d (.bool y) :: t => (eqFlat r s t).map (x == y && ·)
  | .str :: r, .d (.str x) :: s, .d (.str y) :: t => (eqFlat r s t).map (x == y && ·)
  | _, _, _ => none

/-- Is it nil? -/
def isNilC : TC → C → Option Bool
  | .ptr, .nilp => some true
  | .ptr, .ptr .. => some false
  | .func, .nilf => some true
  | .func, .fn .. => some false
  | .iface, .nili => some true
  | .iface, .ifc => some false
  | .slice, .d (.sl (.im b) _ _) => some b
  | .slice, .view .. => some false
  | _, _ => none

def binV (tc : TC) (op : BinOp) (x y : V) : Option D :=
  match x, y with
  | .one (.d (.int k a)), .one (.d (.int k' b)) =>
    match op with
    | .shl => shiftOp .shl k a b
    | .shr => shiftOp .shr k a b
    | _ => if k = k' then intOp op k a b else none
  | .one (.d (.str a)), .one (.d (.str b)) => strOp op a b
  | .one (.d (.bool a)), .one (.d (.bool b)) =>
    match tc, op with
    | .bool, .eql => some (.bool (a == b))
    | .bool, .neq => some (.bool (!(a == b)))
    | _, _ => none
  | .agg a, .agg b =>
    match tc, op with
    | .struct fs, .eql => (eqFlat fs a b).map .bool
    | .struct fs, .neq => (eqFlat fs a b).map fun r => .bool (!r)
    | _, _ => none
  | .one a, .one b =>
    if isNilC tc b = some true then
      match op with
      | .eql => (isNilC tc a).map .bool
      | .neq => (isNilC tc a).map fun r => .bool (!r)
      | _ => none
    else none
  | _, _ => none

def unV (op : UnOp) (x : V) : Option D :=
  match op, x with
  | .not, .one (.d (.bool b)) => some (.bool (!b))
  | .neg, .one (.d (.int k n)) => some (.int k (k.wrap (0 - n)))
  | .xor, .one (.d (.int k n)) => some (.int k (k.wrap (BitVec.ofInt k.bits (if k.signed then -1 else k.max) ^^^ BitVec.ofInt k.bits n).toNat))
  | _, _ => none

def asNat : V → Option Nat
  | .one (.d (.int _ n)) => if 0 ≤ n then some n.toNat else none
  | _ => none

def optNat (x : Option X) (d : Nat) : Q Nat :=
  match x with
  | none => pure d
  | some x => do let v ← rd x; Q.ofO (asNat v)

/-- The rows that a slice shows. -/
def shown : V → Q (List (List D))
  | .one (.d (.sl .own _ _)) => Q.no
  | .one (.d (.sl _ _ rows)) => pure rows
  | .one (.view pl g sz off len) => do
    let (_, _, rows) ← ownAt [] pl g sz
    Q.guard (decide (off + len ≤ rows.length))
    pure (plainRs ((rows.drop off).take len))
  | _ => Q.no

/-- The same, for keeps; of what was handed over, all that it holds. -/
def rowsOf (sz : Nat) (ws : List Wr) (v : V) : Q (List (List D) × List Wr) :=
  match v with
  | .one c => do
    let (c', ws) ← st ws c
    match c' with
    | .d (.sl _ sz' rows) => do Q.guard (sz' == sz || rows.isEmpty); pure (rows, ws)
    | _ => Q.no
  | _ => Q.no

def appTo (sz bytes : Nat) (v : V) (ws : List Wr) (src : List (List D)) : Q (V × List Wr) :=
  match v with
  | .one (.d (.sl .own sz' rows)) => do
    Q.guard (sz' == sz && decide ((rows.length + src.length) * bytes ≤ 140737488355328))
    pure (.one (.d (.sl .own sz (rows ++ src))), ws)
  | .one (.d (.sl (.im b) sz' _)) => do
    Q.guard (b && sz' == sz && decide (src.length * bytes ≤ 140737488355328))
    pure (.one (.d (.sl (if src.isEmpty then .im true else .own) sz src)), ws)
  | .one (.view pl g sz' off len) => do
    let (_, _, rows) ← ownAt ws pl g sz
    Q.guard (sz' == sz && off == 0 && len == rows.length && fresh ws pl.k && decide ((rows.length + src.length) * bytes ≤ 140737488355328))
    let ea ← Q.at_ (.a pl.k)
    pure (.one (.appd pl g (ea.g + 1) sz (rows ++ src)), { k := .a pl.k, v := V.dead } :: ws)
  | .one (.appd pl g a sz' rows) => do
    let (_, _, old) ← ownAt ws pl g sz
    let ea ← Q.at_ (.a pl.k)
    Q.guard (sz' == sz && decide (old.length ≤ rows.length) && ea.g == a && fresh ws pl.k && decide ((rows.length + src.length) * bytes ≤ 140737488355328))
    pure (.one (.appd pl g (ea.g + 1) sz (rows ++ src)), { k := .a pl.k, v := V.dead } :: ws)
  | _ => Q.no

def movTo (dst : Nat) (v : V) (ws : List Wr) : Q (V × List Wr) :=
  match v with
  | .one (.appd pl g a sz rows) => do
    let (c, ws) ← settle ws pl g a sz rows
    pure (.one c, ws)
  | .one (.view pl g sz off len) =>
    if pl.k = .s dst then do
      let (c, ws) ← st ws (.view pl g sz off len)
      pure (.one c, ws)
    else pure (v, ws)
  | _ => pure (v, ws)

/-- Cells, made fit for the cells of a row. -/
def fitRow (P : Place) (i : Nat) (ws : List Wr) : Nat → List C → Q (List D × List Wr)
  | _, [] => pure ([], ws)
  | c, y :: t => do
    let (y', ws) ← stAt ws (P.sub i c) y
    match y' with
    | .d z => do
      let (zs, ws) ← fitRow P i ws (c + 1) t
      pure (z :: zs, ws)
    | _ => Q.no
/-- Cells into a row of a slice of its own, one behind the other; where no slice is among what was and what comes, the count stays. -/
def elWrs (v : V) (pl : Place) (i : Nat) : Nat → List D → D → List Wr → Option (List Wr)
  | _, [], _, ws => some ws
  | c, z :: t, x, ws =>
    match navD x (pl.p ++ [(i, c)]) with
    | none => none
    | some old =>
      elWrs (v.setCell pl.j (.d (setD x (pl.p ++ [(i, c)]) z))) pl i (c + 1) t (setD x (pl.p ++ [(i, c)]) z)
        ({ k := pl.k, v := v.setCell pl.j (.d (setD x (pl.p ++ [(i, c)]) z)), keep := old.flat && z.flat } :: { k := .a pl.k, v := V.dead } :: ws)

def putCell (mv : Bool) (ws : List Wr) (P : Place) (y : C) : Q (C × List Wr) := if mv then stMv ws P y else stAt ws P y
def putCells (mv : Bool) (r : Root) (ws : List Wr) : Nat → List C → Q (List C × List Wr)
  | _, [] => pure ([], ws)
  | c, y :: t => do
    let (y', ws) ← putCell mv ws ⟨.b r c, 0, []⟩ y
    let (ys, ws) ← putCells mv r ws (c + 1) t
    pure (y' :: ys, ws)

end Go.Abs
