/- The abstract evaluator: operations, regions, code, functions. -/
import Derived.Test.YtjndnconlakjkaaAbsOp
namespace Go.Abs

/-- Who answers a call: the function, the arguments, the boxes that they reach; the result and what the boxes hold then (a box more: one that the call made and handed out). -/
abbrev Oracle := Nat → List V → List (List C) → Option (V × List (List C))

mutual
def C.ptrs : C → List (Root × Nat)
  | .ptr r g _ => [(r, g)]
  | .fn _ a b => ptrsL a ++ ptrsL b
  | _ => []
def ptrsL : List C → List (Root × Nat)
  | [] => []
  | c :: t => c.ptrs ++ ptrsL t
end

def addPtrs : List Root → List (Root × Nat) → List Root
  | rs, [] => rs
  | rs, (r, _) :: t => if rs.contains r then addPtrs rs t else addPtrs (rs ++ [r]) t

def liveAll (ws : List Wr) : List (Root × Nat) → Q Unit
  | [] => pure ()
  | (r, g) :: t => do
    let e ← Q.at_ (.r r)
    Q.guard (e.g == g && (getWr ws (.r r)).isNone && !r.isG)
    liveAll ws t

def rawCells (ws : List Wr) (r : Root) : Nat → Nat → Q (List C)
  | _, 0 => pure []
  | c, n + 1 => do
    let e ← atP ws (.b r c)
    match e.v with
    | .one x => do
      let t ← rawCells ws r (c + 1) n
      pure (x :: t)
    | _ => Q.no

def gather (ws : List Wr) : Nat → List Root → Nat → Q (List Root × List (List C))
  | 0, rs, i => if rs.length ≤ i then pure (rs, []) else Q.no
  | f + 1, rs, i =>
    match rs[i]? with
    | none => pure (rs, [])
    | some r => do
      let er ← Q.at_ (.r r)
      let cs ← rawCells ws r 0 (boxN er.v)
      liveAll ws (ptrsL cs)
      let (rs', bs) ← gather ws f (addPtrs rs (ptrsL cs)) (i + 1)
      pure (rs', cs :: bs)

def rootIdx (rs : List Root) (r : Root) (i : Nat) : Option Nat :=
  match rs with
  | [] => none
  | x :: t => if x = r then some i else rootIdx t r (i + 1)

mutual
/-- A cell as the callee sees it. -/
def C.inC (rs : List Root) : C → Option C
  | .d x => some (.d x)
  | .ptr r _ c => (rootIdx rs r 0).map fun i => .ptr (.e i) 0 c
  | .pp cells => some (.pp cells)
  | .fn f a b => (inL rs a).bind fun a' => (inL rs b).map fun b' => .fn f a' b'
  | .nilp => some .nilp
  | .nilf => some .nilf
  | .nili => some .nili
  | .ifc => some .ifc
  | .dead => some .dead
  | _ => none
def inL (rs : List Root) : List C → Option (List C)
  | [] => some []
  | c :: t => (c.inC rs).bind fun c' => (inL rs t).map (c' :: ·)
end

def V.inV (rs : List Root) : V → Option V
  | .one c => (c.inC rs).map .one
  | .agg cs => (inL rs cs).map .agg
  | .tup _ => none
def inVs (rs : List Root) : List V → Option (List V)
  | [] => some []
  | v :: t => (v.inV rs).bind fun v' => (inVs rs t).map (v' :: ·)
def inBs (rs : List Root) : List (List C) → Option (List (List C))
  | [] => some []
  | v :: t => (inL rs v).bind fun v' => (inBs rs t).map (v' :: ·)

mutual
/-- A cell as the caller sees it. -/
def C.outC (rs : List (Root × Nat)) : C → Option C
  | .d x => some (.d x)
  | .ptr (.e i) _ c => (rs[i]?).map fun x => .ptr x.1 x.2 c
  | .ptr _ _ _ => none
  | .pp cells => some (.pp cells)
  | .fn f a b => (outL rs a).bind fun a' => (outL rs b).map fun b' => .fn f a' b'
  | .nilp => some .nilp
  | .nilf => some .nilf
  | .nili => some .nili
  | .ifc => some .ifc
  | .dead => some .dead
  | _ => none
def outL (rs : List (Root × Nat)) : List C → Option (List C)
  | [] => some []
  | c :: t => (c.outC rs).bind fun c' => (outL rs t).map (c' :: ·)
end

mutual
def V.outV (rs : List (Root × Nat)) : V → Option V
  | .one c => (c.outC rs).map .one
  | .agg cs => (outL rs cs).map .agg
  | .tup vs => (outVs rs vs).map .tup
def outVs (rs : List (Root × Nat)) : List V → Option (List V)
  | [] => some []
  | v :: t => (v.outV rs).bind fun v' => (outVs rs t).map (v' :: ·)
end
def outBs (rs : List (Root × Nat)) : List (List C) → Option (List (List C))
  | [] => some []
  | v :: t => (outL rs v).bind fun v' => (outBs rs t).map (v' :: ·)

def gensOf : List Root → Q (List (Root × Nat))
  | [] => pure []
  | x :: t => do
    let e ← Q.at_ (.r x)
    let l ← gensOf t
    pure ((x, e.g) :: l)

/-- Is a cell surely what it was? -/
def C.same : C → C → Bool
  | .ptr r g c, .ptr r' g' c' => decide (r = r') && g == g' && c == c'
  | _, _ => false
/-- The cells of a box behind a call; what is surely as it was is not written. -/
def newWrs (r : Root) : Nat → List C → List C → List Wr → List Wr
  | c, x :: t, y :: u, ws => newWrs r (c + 1) t u (if y.same x then ws else { k := .b r c, v := .one x } :: ws)
  | _, _, _, ws => ws
def boxWrs : List Root → List (List C) → List (List C) → List Wr → List Wr
  | x :: rs, cs :: bs, ol :: os, ws => boxWrs rs bs os (newWrs x 0 cs ol ws)
  | _, _, _, ws => ws
/-- The same lengths. -/
def lensEq : List (List C) → List (List C) → Bool
  | [], [] => true
  | x :: t, y :: u => x.length == y.length && lensEq t u
  | _, _ => false

/-- The arguments: made fit to be stored, and nobody's any more. -/
def rdArgs (ws : List Wr) : List (Bool × X) → Q (List V × List Wr)
  | [] => pure ([], ws)
  | (_, x) :: t => do
    let (v, ws) ← tk ws x
    match v with
    | .one c => do
      let (c', ws) ← st ws c
      let (vs, ws) ← rdArgs ws t
      pure (.one c'.plain :: vs, ws)
    | .agg cs => do
      let (cs', ws) ← stL ws cs
      let (vs, ws) ← rdArgs ws t
      pure (.agg (cs'.map C.plain) :: vs, ws)
    | .tup _ => Q.no

def vPtrs : List V → List (Root × Nat)
  | [] => []
  | v :: t => ptrsL v.cells ++ vPtrs t

def callF (Cl : Oracle) (dst : Nat) (f : Nat) (vs : List V) (ws : List Wr) : Q (V × List Wr) := do
  liveAll ws (vPtrs vs)
  let (rs, bs) ← gather ws 40 (addPtrs [] (vPtrs vs)) 0
  let vs' ← Q.ofO (inVs rs vs)
  let bs' ← Q.ofO (inBs rs bs)
  let (r, out) ← Q.ofO (Cl f vs' bs')
  if rs.isEmpty && r.flat && out.isEmpty then pure (r, [])
  else do
    let gs ← gensOf rs
    if out.length = rs.length then do
      let r' ← Q.ofO (r.outV gs)
      let bs2 ← Q.ofO (outBs gs out)
      Q.guard (lensEq bs2 bs)
      pure (r', boxWrs rs bs2 bs ws)
    else do
      let e ← atP ws (.r (.l dst))
      let gs' := gs ++ [(.l dst, e.g + 1)]
      let r' ← Q.ofO (r.outV gs')
      let bs2 ← Q.ofO (outBs gs' out)
      let nb := bs2.getD rs.length []
      Q.guard (out.length == rs.length + 1 && lensEq (bs2.take rs.length) bs && (boxN e.v == 0 || boxN e.v == nb.length) && !rs.contains (.l dst))
      pure (r', cellWrs (.l dst) 0 nb ({ k := .r (.l dst), v := sizeV nb.length } :: boxWrs rs bs2 bs ws))

def fnCells (ws : List Wr) : List X → Q (List C × List Wr)
  | [] => pure ([], ws)
  | x :: t => do
    let v ← rd x
    match v with
    | .one c => do
      let (c', ws) ← st ws c
      let (r, ws) ← fnCells ws t
      pure (c' :: r, ws)
    | _ => Q.no

/-- A slice cut down to nothing, its capacity too. -/
def Tag.emptied : Tag → Tag
  | .im b => bif b then .im true else .own
  | .own => .own

def evOp (Cl : Oracle) (dst : Nat) : IOp → Q (V × List Wr)
  | .mov x => do let (v, ws) ← tk [] x; movTo dst v ws
  | .nilck x => do
    let v ← rd x
    match v with
    | .one (.ptr ..) => pure (v, [])
    | .one (.eptr ..) => pure (v, [])
    | .one (.pp _) => pure (v, [])
    | .one (.fn ..) => pure (v, [])
    | _ => Q.no
  | .pick c a b => do
    let v ← rd c
    match v with
    | .one (.d (.bool true)) => do let r ← rd a; pure (r, [])
    | .one (.d (.bool false)) => do let r ← rd b; pure (r, [])
    | _ => Q.no
  | .alloc zero => boxed dst zero []
  | .box n x => do
    let (v, ws) ← tk [] x
    let (cs, ws) ← stL ws v.cells
    Q.guard (cs.length == n)
    boxed dst cs ws
  | .build zero parts => do let (cs, ws) ← evParts [] zero parts; pure (.agg cs, ws)
  | .bslice sz rows parts => do let (rs, ws) ← evRows sz [] rows parts; pure (.one (.d (.sl .own sz rs)), ws)
  | .load n agg x => do
    let v ← rd x
    match v with
    | .one (.ptr r g c) => do
      let e ← Q.at_ (.r r)
      Q.guard (!r.isG && e.g == g && decide (c + n ≤ boxN e.v))
      let cs ← readCells r c n
      let r' ← mkV agg cs
      pure (r', [])
    | .one (.pp cells) => do
      Q.guard (decide (n ≤ cells.length))
      let r' ← mkV agg ((cells.take n).map .d)
      pure (r', [])
    | .one (.eptr pl g sz i c) => do
      let (_, _, rows) ← ownAt [] pl g sz
      let row ← Q.ofO rows[i]?
      Q.guard (decide (c + n ≤ row.length))
      let r' ← mkV agg (lookRow pl g i c ((row.drop c).take n))
      pure (r', [])
    | _ => Q.no
  | .store mv n x v => do
    let p ← rd x
    let (vv, ws) ← tk [] v
    Q.guard (vv.cells.length == n)
    match p with
    | .one (.ptr r g c) => do
      let (cs, ws) ← putCells mv r ws c vv.cells
      let e ← atP ws (.r r)
      Q.guard (!r.isG && e.g == g && decide (c + n ≤ boxN e.v))
      pure (.tup [], cellWrs r c cs ws)
    | .one (.eptr pl g sz i c) => do
      let (zs, ws) ← fitRow pl i ws c vv.cells
      let (e, x0, rows) ← ownAt ws pl g sz
      let row ← Q.ofO rows[i]?
      Q.guard (decide (c + n ≤ row.length))
      let ws ← Q.ofO (elWrs e.v pl i c zs x0 ws)
      pure (.tup [], ws)
    | _ => Q.no
  | .bin tc op x y => do
    let a ← rd x
    let b ← rd y
    let r ← Q.ofO (binV tc op a b)
    pure (.one (.d r), [])
  | .un op x => do
    let a ← rd x
    let r ← Q.ofO (unV op a)
    pure (.one (.d r), [])
  | .conv c x => do
    let a ← rd x
    match c, a with
    | .int k, .one (.d (.int _ n)) => pure (.one (.d (.int k (k.wrap n))), [])
    | .same, .one (.d (.str s)) => pure (.one (.d (.str s)), [])
    | .strBytes, .one (.d (.str s)) => do
      Q.guard (decide (s.length ≤ 140737488355328))
      pure (.one (.d (.sl .own 1 (D.strB s))), [])
    | .bytesStr, a => do
      let rows ← shown a
      let s ← Q.ofO (toBytes rows)
      pure (.one (.d (.str s)), [])
    | _, _ => Q.no
  | .mkfn f first cap => do
    let (a, ws) ← fnCells [] first
    let (b, ws) ← fnCells ws cap
    pure (.one (.fn f a b), ws)
  | .mkslice sz bytes zero l c => do
    let n ← rd l
    let m ← rd c
    let n ← Q.ofO (asNat n)
    let m ← Q.ofO (asNat m)
    Q.guard (decide (n ≤ m) && decide (m * bytes ≤ 140737488355328) && decide (m ≤ 9223372036854775807) && zero.length == sz)
    pure (.one (.d (.sl .own sz (List.replicate n zero))), [])
  | .sliceS x lo hi => do
    let v ← rd x
    match v with
    | .one (.d (.str s)) => do
      let l ← optNat lo 0
      let h ← optNat hi s.length
      Q.guard (decide (l ≤ h) && decide (h ≤ s.length))
      pure (.one (.d (.str ((s.drop l).take (h - l)))), [])
    | _ => Q.no
  | .slice sz0 x lo hi mx => do
    let v ← rd x
    match v with
    | .one (.d (.sl .own _ _)) => Q.no
    | .one (.d (.sl t sz rows)) => do
      let l ← optNat lo 0
      let h ← optNat hi rows.length
      Q.guard ((sz == sz0 || rows.isEmpty) && decide (l ≤ h) && decide (h ≤ rows.length))
      match mx with
      | none => pure (.one (.d (.sl t sz ((rows.drop l).take (h - l)))), [])
      | some x => do
        let vm ← rd x
        let m ← Q.ofO (asNat vm)
        Q.guard (m == 0 && l == 0 && h == 0)
        pure (.one (.d (.sl t.emptied sz [])), [])
    | .one (.view pl g sz off len) => do
      let l ← optNat lo 0
      let h ← optNat hi len
      Q.guard (sz == sz0 && decide (l ≤ h) && decide (h ≤ len) && mx.isNone)
      pure (.one (.view pl g sz (off + l) (h - l)), [])
    | _ => Q.no
  | .fieldA off x => do
    let v ← rd x
    match v with
    | .one (.ptr r g c) => pure (.one (.ptr r g (c + off)), [])
    | .one (.pp cells) => pure (.one (.pp (cells.drop off)), [])
    | .one (.eptr pl g sz i c) => pure (.one (.eptr pl g sz i (c + off)), [])
    | _ => Q.no
  | .field off n agg x => do
    let v ← rd x
    match v with
    | .agg cs => do
      Q.guard (decide (off + n ≤ cs.length))
      let r ← mkV agg ((cs.drop off).take n)
      pure (r, [])
    | _ => Q.no
  | .indexA sz x i => do
    let v ← rd x
    let vi ← rd i
    let i ← Q.ofO (asNat vi)
    match v with
    | .one (.d (.sl .own _ _)) => Q.no
    | .one (.d (.sl _ sz' rows)) => do
      Q.guard (sz' == sz)
      let row ← Q.ofO rows[i]?
      pure (.one (.pp row), [])
    | .one (.view pl g sz' off len) => do
      Q.guard (sz' == sz && decide (i < len))
      pure (.one (.eptr pl g sz (off + i) 0), [])
    | _ => Q.no
  | .indexR n sz x i => do
    let v ← rd x
    let vi ← rd i
    let i ← Q.ofO (asNat vi)
    Q.guard (decide (i < n))
    match v with
    | .one (.ptr r g c) => pure (.one (.ptr r g (c + i * sz)), [])
    | _ => Q.no
  | .index x i => do
    let v ← rd x
    let vi ← rd i
    let i ← Q.ofO (asNat vi)
    match v with
    | .one (.d (.str s)) => do
      let b ← Q.ofO s[i]?
      pure (.one (.d (.int .u8 b.toNat)), [])
    | _ => Q.no
  | .extract j x => do
    let v ← rd x
    match v with
    | .tup vs => do let r ← Q.ofO vs[j]?; pure (r, [])
    | _ => Q.no
  | .len true x => do
    let v ← rd x
    match v with
    | .one (.d (.str s)) => pure (.one (.d (.int .i64 s.length)), [])
    | _ => Q.no
  | .len false x => do
    let v ← rd x
    match v with
    | .one (.d (.sl _ _ rows)) => pure (.one (.d (.int .i64 rows.length)), [])
    | .one (.view _ _ _ _ len) => pure (.one (.d (.int .i64 len)), [])
    | _ => Q.no
  | .app sz bytes x y => do
    let (a, ws) ← tk [] y
    let (src, ws) ← rowsOf sz ws a
    let (v, ws) ← tk ws x
    appTo sz bytes v ws src
  | .appS x y => do
    let a ← rd y
    match a with
    | .one (.d (.str s)) => do
      let (v, ws) ← tk [] x
      appTo 1 1 v ws (D.strB s)
    | _ => Q.no
  | .min x y => do
    let a ← rd x
    let b ← rd y
    match a, b with
    | .one (.d (.int k m)), .one (.d (.int _ n)) => pure (.one (.d (.int k (if n < m then n else m))), [])
    | _, _ => Q.no
  | .max x y => do
    let a ← rd x
    let b ← rd y
    match a, b with
    | .one (.d (.int k m)), .one (.d (.int _ n)) => pure (.one (.d (.int k (if n > m then n else m))), [])
    | _, _ => Q.no
  | .call f args => do
    let vf ← rd f
    match vf with
    | .one (.fn n first cap) => do
      let (vs, ws) ← rdArgs [] args
      callF Cl dst n (first.map .one ++ vs ++ cap.map .one) ws
    | _ => Q.no
  | .mkif _ => pure (.one .ifc, [])
  | .bad => Q.no

end Go.Abs
