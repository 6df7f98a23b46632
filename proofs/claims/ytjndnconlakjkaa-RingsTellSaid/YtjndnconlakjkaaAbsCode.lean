/- The abstract evaluator: regions, code, functions. -/
import Derived.Test.YtjndnconlakjkaaAbsEv
namespace Go.Abs

structure IOper where
  dst : Option Nat
  op : IOp
  guard : Option (Nat × Bool)
  deriving Inhabited

inductive ICode where
  | skip
  | reg (keep : Option (List Nat)) (gc : Bool) (ops : List IOper) (draw : Option (List (Nat × Nat)))
  | seq (a b : ICode)
  | cond (c : X) (a b : ICode)
  | block (id : Nat) (body : ICode)
  | loop (body : ICode)
  | exit (id : Nat)
  | ret
  deriving Inhabited

inductive RV where
  | slot (t : Nat)
  | cell (t n : Nat) (agg : Bool)
  deriving Inhabited

structure IFunc where
  nslots : Nat
  results : List RV
  body : ICode
  forget : Bool
  deriving Inhabited

inductive IExit where | norm | exit (id : Nat) | ret
  deriving DecidableEq, Inhabited

/-- Whether an operation is wanted. -/
def guardQ : Option (Nat × Bool) → Q Bool
  | none => pure true
  | some (t, b) => do
    let e ← Q.at_ (.s t)
    match e.v with
    | .one (.d (.bool x)) => pure (x == b)
    | .tup [] => pure false
    | _ => Q.no

/-- The writes of one operation of a region. -/
def evOper (Cl : Oracle) (o : IOper) : Q (List Wr) := do
  let want ← guardQ o.guard
  if want then do
    let (v, ws) ← evOp Cl (o.dst.getD 0) o.op
    match o.dst with
    | some d => pure ({ k := .s d, v } :: ws)
    | none => pure ws
  else
    match o.dst with
    | some d => pure [{ k := .s d, v := .tup [] }]
    | none => pure []

def evOps (Cl : Oracle) : List IOper → St → Option St
  | [], S => some S
  | o :: t, S => ((evOper Cl o).run S).bind fun ws => evOps Cl t (S.wrs ws)

/-- What an operation touches: the entries that it reads, those that it writes. -/
structure Foot where
  r : List Key
  w : List Key

def evOpsF (Cl : Oracle) : List IOper → St → Option (St × List Foot)
  | [], S => some (S, [])
  | o :: t, S => ((evOper Cl o).run S).bind fun ws =>
    (evOpsF Cl t (S.wrs ws)).map fun x => (x.1, ⟨(evOper Cl o).reads S, ws.map (·.k)⟩ :: x.2)

def Foot.apart (x y : Foot) : Bool :=
  x.w.all (fun k => !y.r.contains k && !y.w.contains k) && y.w.all (fun k => !x.r.contains k)

def pairsOk (fs : List Foot) (ps : List (Nat × Nat)) : Bool :=
  ps.all fun (i, j) => match fs[i]?, fs[j]? with
    | some x, some y => x.apart y
    | _, _ => false

mutual
def C.refs : C → List Key
  | .view pl .. => [pl.k]
  | .eptr pl .. => [pl.k]
  | .appd pl .. => [pl.k, .a pl.k]
  | .fn _ a b => refsL a ++ refsL b
  | _ => []
def refsL : List C → List Key
  | [] => []
  | c :: t => c.refs ++ refsL t
end
mutual
def V.refs : V → List Key
  | .one c => c.refs
  | .agg cs => refsL cs
  | .tup vs => refsVs vs
def refsVs : List V → List Key
  | [] => []
  | v :: t => v.refs ++ refsVs t
end

def kept (keep : List Nat) : Key → Bool
  | .s i => keep.contains i
  | .h _ => false
  | _ => true

def allRefs : St → List Key
  | [] => []
  | (_, e) :: t => e.v.refs ++ allRefs t

def resetG (refs : List Key) (k : Key) (g : Nat) : Nat := if refs.contains k then g else match k with | .r _ => g | _ => 0
def reset (refs : List Key) : St → St
  | [] => []
  | (k, e) :: t => (k, { e with g := resetG refs k e.g }) :: reset refs t

/-- Slots that nobody asks for any more are forgotten, and the counts of what nobody looks at. -/
def St.norm0 (keep : List Nat) (S : St) : Option St :=
  let S' := S.filter fun x => kept keep x.1
  if (allRefs S').all (kept keep) then some (reset (allRefs S') S') else none

def slotsIn : List Key → List Nat
  | [] => []
  | .s i :: t => i :: slotsIn t
  | _ :: t => slotsIn t
/-- The slots that are asked for, and those that they look at. -/
def St.looked (keep : List Nat) (S : St) : List Nat := keep ++ slotsIn (allRefs (S.filter fun x => kept keep x.1))
def St.norm (keep : List Nat) (S : St) : Option St := S.norm0 (S.looked (S.looked keep))

def Key.root? : Key → Option Root
  | .b x _ => some x
  | .r x => some x
  | _ => none
mutual
def C.rootsC : C → List Root
  | .ptr r .. => [r]
  | .eptr pl .. => pl.k.root?.toList
  | .view pl .. => pl.k.root?.toList
  | .appd pl .. => pl.k.root?.toList
  | .fn _ a b => rootsL a ++ rootsL b
  | _ => []
def rootsL : List C → List Root
  | [] => []
  | c :: t => c.rootsC ++ rootsL t
end
mutual
def V.roots : V → List Root
  | .one c => c.rootsC
  | .agg cs => rootsL cs
  | .tup vs => rootsVs vs
def rootsVs : List V → List Root
  | [] => []
  | v :: t => v.roots ++ rootsVs t
end

def Key.isSlot : Key → Bool
  | .s _ => true
  | _ => false

def slotRoots : St → List Root
  | [] => []
  | (k, e) :: t => (if k.isSlot then e.v.roots else []) ++ slotRoots t
def boxRoots (live : List Root) : St → List Root
  | [] => []
  | (k, e) :: t => (match k with | .b r _ => if live.contains r then e.v.roots else [] | _ => []) ++ boxRoots live t
def growRoots (S : St) : Nat → List Root → List Root
  | 0, l => l
  | n + 1, l => growRoots S n (l ++ (boxRoots l S).filter fun r => !l.contains r)

def Root.ext : Root → Bool
  | .l _ => false
  | _ => true

/-- Boxes of the call's own that nothing leads to are forgotten; a nil slice in a cell is one of the cell's own, without elements. -/
def C.loosen (c : C) : C := c
def V.loosen : V → V
  | .one c => .one c.loosen
  | v => v
def loosenAll : St → St
  | [] => []
  | (k, e) :: t => (k, { e with v := e.v.loosen }) :: loosenAll t

/-- Whether an entry stays when boxes are forgotten. -/
def gcKeep (live : List Root) (k : Key) : Bool := match k.root? with | some r => r.ext || live.contains r | none => true

def St.gc (S : St) : Option St :=
  let live := growRoots S 3 (slotRoots S)
  let S' := S.filter fun x => gcKeep live x.1
  if S'.all fun x => x.2.v.roots.all fun r => r.ext || live.contains r then some (loosenAll S') else none

def evReg (Cl : Oracle) (keep : Option (List Nat)) (gc : Bool) (ops : List IOper) (draw : Option (List (Nat × Nat))) (S : St) : Option St :=
  (match keep with | some l => S.norm l | none => some S).bind fun S1 =>
  (if gc then S1.gc else some S1).bind fun S2 =>
  match draw with
  | none => evOps Cl ops S2
  | some [] => evOps Cl ops S2
  | some ps => (evOpsF Cl ops S2).bind fun x => if pairsOk x.2 ps then some x.1 else none

def iter (f : St → Option (IExit × St)) : Nat → St → Option (IExit × St)
  | 0, _ => none
  | n + 1, S => (f S).bind fun x => match x.1 with
    | .norm => iter f n x.2
    | e => some (e, x.2)

def condV (S : St) (c : X) : Option Bool :=
  ((rd c).run S).bind fun
    | .one (.d (.bool b)) => some b
    | _ => none

def evC (Cl : Oracle) (n : Nat) : ICode → St → Option (IExit × St)
  | .skip, S => some (.norm, S)
  | .reg keep gc ops draw, S => (evReg Cl keep gc ops draw S).map fun S' => (.norm, S')
  | .seq a b, S => (evC Cl n a S).bind fun x => match x.1 with
    | .norm => evC Cl n b x.2
    | e => some (e, x.2)
  | .cond c a b, S => (condV S c).bind fun t => if t then evC Cl n a S else evC Cl n b S
  | .block id b, S => (evC Cl n b S).map fun x => (match x.1 with | .exit i => if i = id then .norm else .exit i | e => e, x.2)
  | .loop b, S => iter (evC Cl n b) n S
  | .exit id, S => some (.exit id, S)
  | .ret, S => some (.ret, S)

def argEnts : Nat → List V → St
  | _, [] => []
  | i, v :: t => (.s i, ⟨v, 0⟩) :: argEnts (i + 1) t
def boxEnts (r : Root) : Nat → List C → St
  | _, [] => []
  | c, x :: t => (.b r c, ⟨.one x, 0⟩) :: boxEnts r (c + 1) t
def boxesEnts : Nat → List (List C) → St
  | _, [] => []
  | i, b :: t => (.r (.e i), ⟨sizeV b.length, 0⟩) :: (boxEnts (.e i) 0 b ++ boxesEnts (i + 1) t)

/-- A result, read. -/
def rdRes (ws : List Wr) : RV → Q (V × List Wr)
  | .slot t => tk ws (.t t)
  | .cell t n agg => do
    let v ← rd (.s t)
    match v with
    | .one (.ptr r g c) => do
      let e ← Q.at_ (.r r)
      Q.guard (!r.isG && e.g == g && decide (c + n ≤ boxN e.v))
      let cs ← readCells r c n
      let r' ← mkV agg cs
      pure (r', ws)
    | _ => Q.no

def stMvL (ws : List Wr) : List C → Q (List C × List Wr)
  | [] => pure ([], ws)
  | c :: cs => do
    let (c', ws) ← stMv ws ⟨.h 0, 0, []⟩ c
    let (cs', ws) ← stMvL ws cs
    pure (c' :: cs', ws)

/-- The one result: what is handed on whole is the caller's own. -/
def resOne (r : RV) : Q (V × List Wr) := do
  let (v, ws) ← rdRes [] r
  match v with
  | .one c => do let (c', ws) ← stMv ws ⟨.h 0, 0, []⟩ c; pure (.one c', ws)
  | .agg cs => do let (cs', ws) ← stMvL ws cs; pure (.agg cs', ws)
  | .tup _ => Q.no

/-- Results of which nothing is anybody's own. -/
def resVs (ws : List Wr) : List RV → Q (List V × List Wr)
  | [] => pure ([], ws)
  | r :: t => do
    let (v, ws) ← rdRes ws r
    match v with
    | .one c => do
      let (c', ws) ← st ws c
      let (vs, ws) ← resVs ws t
      pure (.one c'.plain :: vs, ws)
    | .agg cs => do
      let (cs', ws) ← stL ws cs
      let (vs, ws) ← resVs ws t
      pure (.agg (cs'.map C.plain) :: vs, ws)
    | .tup _ => Q.no

def resAll (forget : Bool) : List RV → Q (V × List Wr)
  | [r] => if forget then do
      let (vs, ws) ← resVs [] [r]
      match vs with
      | [v] => pure (v, ws)
      | _ => Q.no
    else resOne r
  | rs => do let (vs, ws) ← resVs [] rs; pure (.tup vs, ws)

/-- The box of the call's own that a result leads to. -/
def newBox : List (Root × Nat) → Option Root
  | [] => none
  | (.l i, _) :: _ => some (.l i)
  | _ :: t => newBox t

/-- The boxes that came in, as they are now. -/
def outBoxes (ws : List Wr) : Nat → List (List C) → Q (List (List C))
  | _, [] => pure []
  | i, b :: t => do
    let e ← atP ws (.r (.e i))
    Q.guard (boxN e.v == b.length)
    let cs ← rawCells ws (.e i) 0 b.length
    let r ← outBoxes ws (i + 1) t
    pure (cs :: r)

def extsOf : Nat → Nat → List Root
  | _, 0 => []
  | i, n + 1 => .e i :: extsOf (i + 1) n

mutual
def V.leave (rs : List Root) : V → Option V
  | .one c => (c.inC rs).map .one
  | .agg cs => (inL rs cs).map .agg
  | .tup vs => (leaveVs rs vs).map .tup
def leaveVs (rs : List Root) : List V → Option (List V)
  | [] => some []
  | v :: t => (v.leave rs).bind fun v' => (leaveVs rs t).map (v' :: ·)
end

def ptrsBs : List (List C) → List (Root × Nat)
  | [] => []
  | b :: t => ptrsL b ++ ptrsBs t

mutual
def V.ptrsV : V → List (Root × Nat)
  | .one c => c.ptrs
  | .agg cs => ptrsL cs
  | .tup vs => ptrsVs vs
def ptrsVs : List V → List (Root × Nat)
  | [] => []
  | v :: t => v.ptrsV ++ ptrsVs t
end

def evRet (fn : IFunc) (bx : List (List C)) : Q (V × List (List C)) := do
  let (v, ws) ← resAll fn.forget fn.results
  let out ← outBoxes ws 0 bx
  match newBox v.ptrsV with
  | none => do
    liveAll ws (v.ptrsV ++ ptrsBs out)
    let v' ← Q.ofO (v.leave (extsOf 0 bx.length))
    let out' ← Q.ofO (inBs (extsOf 0 bx.length) out)
    pure (v', out')
  | some r => do
    let e ← atP ws (.r r)
    let cs ← rawCells ws r 0 (boxN e.v)
    liveAll ws (v.ptrsV ++ ptrsBs (out ++ [cs]))
    let v' ← Q.ofO (v.leave (extsOf 0 bx.length ++ [r]))
    let out' ← Q.ofO (inBs (extsOf 0 bx.length ++ [r]) (out ++ [cs]))
    pure (v', out')

def evBody (Cl : Oracle) (n : Nat) (fn : IFunc) (args : List V) (bx : List (List C)) : Option (V × List (List C)) :=
  if args.length ≤ fn.nslots then
    (evC Cl n fn.body (argEnts 0 args ++ boxesEnts 0 bx)).bind fun x =>
      match x.1 with
      | .exit _ => none
      | _ => (evRet fn bx).run x.2
  else none

def evN (T : Nat → Option IFunc) (prim : Oracle) : Nat → Oracle
  | 0 => fun _ _ _ => none
  | n + 1 => fun f args bx => match T f with
    | some fn => evBody (evN T prim n) n fn args bx
    | none => prim f args bx

end Go.Abs
