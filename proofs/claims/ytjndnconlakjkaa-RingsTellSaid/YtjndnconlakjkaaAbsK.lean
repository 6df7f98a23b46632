/- The evaluator in continuation form: what it asks of data is asked in the open, so that a kernel can run it over data that are not known. Definitions alone. -/
import Derived.Test.YtjndnconlakjkaaAbsCode
namespace Go.Abs

/-- What is known of a cell's data beforehand. -/
inductive DS where
  | int (k : IntKind)
  | bool
  | str
  | im (sz : Nat)
  | own (sz : Nat)
  | sl (sz : Nat)
  deriving DecidableEq, Inhabited

abbrev DS.T : DS → Type
  | .int _ => Int
  | .bool => Bool
  | .str => List UInt8
  | .im _ => Bool × List (List D)
  | .own _ => List (List D)
  | .sl _ => Tag × List (List D)
abbrev RowT : List DS → Type
  | [] => Unit
  | s :: t => s.T × RowT t

def decD : (s : DS) → D → Option s.T
  | .int k, .int k' n => if k = k' then some n else none
  | .bool, .bool b => some b
  | .str, .str s => some s
  | .im sz, .sl (.im b) sz' rows => if sz = sz' then some (b, rows) else none
  | .own sz, .sl .own sz' rows => if sz = sz' then some rows else none
  | .sl sz, .sl t sz' rows => if sz = sz' then some (t, rows) else none
  | _, _ => none
def decRow : (ds : List DS) → List D → Option (RowT ds)
  | [], [] => some ()
  | s :: t, x :: l => match decD s x, decRow t l with
    | some v, some w => some (v, w)
    | _, _ => none
  | _, _ => none

def qTag {R : Type} (t : Tag) (k : Tag → Option R) : Option R := match t with | .im b => k (.im b) | .own => k .own
def encD {R : Type} : (s : DS) → s.T → (D → Option R) → Option R
  | .int k, n, K => K (.int k n)
  | .bool, b, K => K (.bool b)
  | .str, s, K => K (.str s)
  | .im sz, x, K => K (.sl (.im x.1) sz x.2)
  | .own sz, x, K => K (.sl .own sz x)
  | .sl sz, x, K => qTag x.1 fun t => K (.sl t sz x.2)
def encRow {R : Type} : (ds : List DS) → RowT ds → (List D → Option R) → Option R
  | [], _, K => K []
  | s :: t, v, K => encD s v.1 fun x => encRow t v.2 fun l => K (x :: l)

def tRow {R : Type} (ds : List DS) (l : List D) (K : RowT ds → Option R) : Option R := match decRow ds l with | some v => K v | none => none
def qRow {R : Type} (ds : List DS) (l : List D) (K : List D → Option R) : Option R := tRow ds l fun v => encRow ds v K

/-- What is known of a result. -/
inductive VS where
  | one (s : DS)
  | agg (ds : List DS)
  deriving DecidableEq, Inhabited
abbrev VS.T : VS → Type
  | .one s => s.T
  | .agg ds => RowT ds
/-- The result; the boxes that come back. -/
inductive RS where
  | val (v : VS) (bs : List (List DS))
  | tup (vs : List VS) (bs : List (List DS))
  deriving DecidableEq, Inhabited
abbrev VSsT : List VS → Type
  | [] => Unit
  | v :: t => v.T × VSsT t
abbrev BoxT : List (List DS) → Type
  | [] => Unit
  | b :: t => RowT b × BoxT t
abbrev RS.T : RS → Type
  | .val v bs => v.T × BoxT bs
  | .tup vs bs => VSsT vs × BoxT bs

def decV : (s : VS) → V → Option s.T
  | .one s, .one (.d x) => decD s x
  | .agg ds, .agg cs => match dataL cs with | some l => decRow ds l | none => none
  | _, _ => none
def decVs : (ss : List VS) → List V → Option (VSsT ss)
  | [], [] => some ()
  | s :: t, x :: l => match decV s x, decVs t l with
    | some v, some w => some (v, w)
    | _, _ => none
  | _, _ => none
def decBs : (ss : List (List DS)) → List (List C) → Option (BoxT ss)
  | [], [] => some ()
  | s :: t, x :: l => match dataL x with
    | some x' => match decRow s x', decBs t l with
      | some v, some w => some (v, w)
      | _, _ => none
    | none => none
  | _, _ => none
def decR : (s : RS) → V × List (List C) → Option s.T
  | .val v bs, (x, out) => match decV v x, decBs bs out with
    | some a, some b => some (a, b)
    | _, _ => none
  | .tup vs bs, (.tup xs, out) => match decVs vs xs, decBs bs out with
    | some a, some b => some (a, b)
    | _, _ => none
  | _, _ => none

def encV {R : Type} : (s : VS) → s.T → (V → Option R) → Option R
  | .one s, x, K => encD s x fun y => K (.one (.d y))
  | .agg ds, x, K => encRow ds x fun l => K (.agg (l.map .d))
def encVs {R : Type} : (ss : List VS) → VSsT ss → (List V → Option R) → Option R
  | [], _, K => K []
  | s :: t, x, K => encV s x.1 fun v => encVs t x.2 fun l => K (v :: l)
def encBs {R : Type} : (ss : List (List DS)) → BoxT ss → (List (List C) → Option R) → Option R
  | [], _, K => K []
  | s :: t, x, K => encRow s x.1 fun l => encBs t x.2 fun u => K (l.map .d :: u)
def encR {R : Type} : (s : RS) → s.T → (V × List (List C) → Option R) → Option R
  | .val v bs, x, K => encV v x.1 fun a => encBs bs x.2 fun b => K (a, b)
  | .tup vs bs, x, K => encVs vs x.1 fun a => encBs bs x.2 fun b => K (.tup a, b)

def tRes {R : Type} (s : RS) (o : Option (V × List (List C))) (K : s.T → Option R) : Option R :=
  match o with
  | some x => match decR s x with | some v => K v | none => none
  | none => none

theorem decD_enc {R : Type} (s : DS) (v : s.T) (K : D → Option R) : encD s v K = (encD s v some).bind K := by
  cases s <;> simp only [encD, Option.bind]
  case sl sz => obtain ⟨t, rows⟩ := v; cases t <;> rfl
theorem encRow_nat {R : Type} : (ds : List DS) → (v : RowT ds) → (K : List D → Option R) → encRow ds v K = (encRow ds v some).bind K
  | [], _, _ => rfl
  | s :: t, v, K => by
    simp only [encRow]
    rw [decD_enc s v.1, decD_enc s v.1 (fun x => encRow t v.2 fun l => some (x :: l))]
    cases encD s v.1 some with
    | none => rfl
    | some x =>
      simp only [Option.bind]
      rw [encRow_nat t v.2, encRow_nat t v.2 (fun l => some (x :: l))]
      cases encRow t v.2 some <;> rfl
theorem encV_nat {R : Type} (s : VS) (v : s.T) (K : V → Option R) : encV s v K = (encV s v some).bind K := by
  cases s with
  | one s => simp only [encV]; rw [decD_enc, decD_enc s v (fun y => some (V.one (C.d y)))]; cases encD s v some <;> rfl
  | agg ds => simp only [encV]; rw [encRow_nat, encRow_nat ds v (fun l => some (V.agg (l.map .d)))]; cases encRow ds v some <;> rfl
theorem encVs_nat {R : Type} : (ss : List VS) → (v : VSsT ss) → (K : List V → Option R) → encVs ss v K = (encVs ss v some).bind K
  | [], _, _ => rfl
  | s :: t, v, K => by
    simp only [encVs]
    rw [encV_nat s v.1, encV_nat s v.1 (fun x => encVs t v.2 fun l => some (x :: l))]
    cases encV s v.1 some with
    | none => rfl
    | some x =>
      simp only [Option.bind]
      rw [encVs_nat t v.2, encVs_nat t v.2 (fun l => some (x :: l))]
      cases encVs t v.2 some <;> rfl
theorem encBs_nat {R : Type} : (ss : List (List DS)) → (v : BoxT ss) → (K : List (List C) → Option R) → encBs ss v K = (encBs ss v some).bind K
  | [], _, _ => rfl
  | s :: t, v, K => by
    simp only [encBs]
    rw [encRow_nat s v.1, encRow_nat s v.1 (fun l => encBs t v.2 fun u => some (l.map .d :: u))]
    cases encRow s v.1 some with
    | none => rfl
    | some x =>
      simp only [Option.bind]
      rw [encBs_nat t v.2, encBs_nat t v.2 (fun u => some (x.map .d :: u))]
      cases encBs t v.2 some <;> rfl
theorem encR_nat {R : Type} (s : RS) (v : s.T) (K : V × List (List C) → Option R) : encR s v K = (encR s v some).bind K := by
  cases s with
  | val s bs =>
    simp only [encR]
    rw [encV_nat s v.1, encV_nat s v.1 (fun a => encBs bs v.2 fun b => some (a, b))]
    cases encV s v.1 some with
    | none => rfl
    | some x =>
      simp only [Option.bind]
      rw [encBs_nat, encBs_nat bs v.2 (fun b => some (x, b))]
      cases encBs bs v.2 some <;> rfl
  | tup ss bs =>
    simp only [encR]
    rw [encVs_nat ss v.1, encVs_nat ss v.1 (fun a => encBs bs v.2 fun b => some (V.tup a, b))]
    cases encVs ss v.1 some with
    | none => rfl
    | some x =>
      simp only [Option.bind]
      rw [encBs_nat, encBs_nat bs v.2 (fun b => some (V.tup x, b))]
      cases encBs bs v.2 some <;> rfl

/-- Cells of which it is known beforehand what they are. -/
def Q.row (ds : List DS) (l : List D) : Q (List D) :=
  .cps (fun _ k => tRow ds l fun v => encRow ds v k)
    (by intro R k; unfold tRow; cases decRow ds l with | none => rfl | some v => exact encRow_nat ds v k) .ret
def Q.res (s : RS) (o : Option (V × List (List C))) : Q (V × List (List C)) :=
  .cps (fun _ k => tRes s o fun v => encR s v k)
    (by
      intro R k
      unfold tRes
      cases o with
      | none => rfl
      | some x =>
        simp only
        cases decR s x with
        | none => rfl
        | some v => exact encR_nat s v k) .ret

def lkN {α : Type} : List (Nat × α) → Nat → Option α
  | [], _ => none
  | (i, x) :: t, n => match Nat.beq i n with | true => some x | false => lkN t n
/-- Words for the printed text. -/
def natI (n : Nat) : Int := n
def asI (n : Int) : Option Nat := if 0 ≤ n then some n.toNat else none
def tagI {R : Type} (t : Tag) (f : Bool → Option R) (g : Option R) : Option R := match t with | .im b => f b | .own => g
/-- One cell of a row anew. -/
def rset (R : List (List D)) (i c : Nat) (z : D) : List (List D) := R.set i ((R.getD i []).set c z)
/-- All rows, looked at. -/
def whole (R : List (List D)) : List (List D) := List.take R.length (List.drop 0 R)
/-- Short words. -/
abbrev oO (d : Nat) (op : IOp) : IOper := ⟨some d, op, none⟩
abbrev oT (d t : Nat) (op : IOp) : IOper := ⟨some d, op, some (t, true)⟩
abbrev oF (d t : Nat) (op : IOp) : IOper := ⟨some d, op, some (t, false)⟩
abbrev oN (op : IOp) : IOper := ⟨none, op, none⟩

/-- What is told beforehand: of a load into a slot the cells; of a function the result. -/
structure Ann where
  row : Nat → Option (List DS)
  res : Nat → Option RS

def rowA (an : Ann) (dst : Nat) (l : List D) : Q (List D) :=
  match an.row dst with
  | some ds => Q.row ds l
  | none => pure l
def resA (an : Ann) (f : Nat) (o : Option (V × List (List C))) : Q (V × List (List C)) :=
  match an.res f with
  | some s => Q.res s o
  | none => Q.ofO o

def callA (an : Ann) (Cl : Oracle) (dst : Nat) (f : Nat) (vs : List V) (ws : List Wr) : Q (V × List Wr) := do
  liveAll ws (vPtrs vs)
  let (rs, bs) ← gather ws 40 (addPtrs [] (vPtrs vs)) 0
  let vs' ← Q.ofO (inVs rs vs)
  let bs' ← Q.ofO (inBs rs bs)
  let (r, out) ← resA an f (Cl f vs' bs')
  if rs.isEmpty && r.flat && out.isEmpty then pure (r, [])
  else do
    let gs ← gensOf rs
    if out.length = rs.length then do
      let r' ← Q.ofO (r.outV gs)
      let bs2 ← Q.ofO (outBs gs out)
      Q.guard (lensEq bs2 bs)
      pure (r', boxWrs rs bs2 bs ws)
    else do
      let e ← atP ws (.r (.l dst))
      let gs' := gs ++ [(.l dst, e.g + 1)]
      let r' ← Q.ofO (r.outV gs')
      let bs2 ← Q.ofO (outBs gs' out)
      let nb := bs2.getD rs.length []
      Q.guard (out.length == rs.length + 1 && lensEq (bs2.take rs.length) bs && (boxN e.v == 0 || boxN e.v == nb.length) && !rs.contains (.l dst))
      pure (r', cellWrs (.l dst) 0 nb ({ k := .r (.l dst), v := sizeV nb.length } :: boxWrs rs bs2 bs ws))

def binA (tc : TC) (op : BinOp) (x y : V) : Q D :=
  match x, y with
  | .one (.d (.int k a)), .one (.d (.int k' b)) =>
    match op with
    | .quo => do Q.guard (decide (k = k') && !decide (b = 0)); pure (.int k (k.wrap (a.tdiv b)))
    | .rem => do Q.guard (decide (k = k') && !decide (b = 0)); pure (.int k (a.tmod b))
    | .shl => do Q.guard (!decide (b < 0)); pure (.int k (k.wrap (a * 2 ^ (Min.min b.toNat k.bits))))
    | .shr => do Q.guard (!decide (b < 0)); pure (.int k (a.fdiv (2 ^ (Min.min b.toNat k.bits))))
    | _ => Q.ofO (binV tc op x y)
  | .one (.d (.str a)), .one (.d (.str b)) =>
    match op with
    | .add => do Q.guard (decide (a.length + b.length ≤ 9223372036854775807)); pure (.str (a ++ b))
    | _ => Q.ofO (binV tc op x y)
  | _, _ => Q.ofO (binV tc op x y)

def appToA (sz bytes : Nat) (v : V) (ws : List Wr) (src : List (List D)) : Q (V × List Wr) :=
  match v with
  | .one (.d (.sl (.im b) sz' _)) => do
    Q.guard (b && sz' == sz && decide (src.length * bytes ≤ 140737488355328))
    let e ← Q.ask src.isEmpty
    pure (.one (.d (.sl (if e then .im true else .own) sz src)), ws)
  | v => appTo sz bytes v ws src

/-- Cells into a row of a slice of its own; what was there is known. -/
def elWrsA (pl : Place) (i : Nat) : V → Nat → List D → List D → D → List Wr → List Wr
  | v, c, z :: t, o :: os, x, ws =>
    elWrsA pl i (v.setCell pl.j (.d (setD x (pl.p ++ [(i, c)]) z))) (c + 1) t os (setD x (pl.p ++ [(i, c)]) z)
      ({ k := pl.k, v := v.setCell pl.j (.d (setD x (pl.p ++ [(i, c)]) z)), keep := o.flat && z.flat } :: { k := .a pl.k, v := V.dead } :: ws)
  | _, _, _, _, _, ws => ws

def slotOf : X → Nat
  | .s i => i
  | .t i => i
  | _ => 0

def evOpA (an : Ann) (Cl : Oracle) (dst : Nat) : IOp → Q (V × List Wr)
  | .pick c a b => do
    let v ← rd c
    match v with
    | .one (.d (.bool t)) => do
      let t ← Q.ask t
      let r ← rd (if t then a else b)
      pure (r, [])
    | _ => Q.no
  | .load n agg x => do
    let v ← rd x
    match v with
    | .one (.ptr r g c) => do
      let e ← Q.at_ (.r r)
      Q.guard (!r.isG && e.g == g && decide (c + n ≤ boxN e.v))
      let cs ← readCells r c n
      let r' ← mkV agg cs
      pure (r', [])
    | .one (.pp cells) => do
      Q.guard (decide (n ≤ cells.length))
      let l ← rowA an dst (cells.take n)
      let r' ← mkV agg (l.map .d)
      pure (r', [])
    | .one (.eptr pl g sz i c) => do
      let (_, _, rows) ← ownAt [] pl g sz
      let row ← Q.ofO rows[i]?
      Q.guard (decide (c + n ≤ row.length))
      let l ← rowA an dst ((row.drop c).take n)
      let r' ← mkV agg (lookRow pl g i c l)
      pure (r', [])
    | _ => Q.no
  | .store mv n x v => do
    let p ← rd x
    let (vv, ws) ← tk [] v
    Q.guard (vv.cells.length == n)
    match p with
    | .one (.ptr r g c) => do
      let (cs, ws) ← putCells mv r ws c vv.cells
      let e ← atP ws (.r r)
      Q.guard (!r.isG && e.g == g && decide (c + n ≤ boxN e.v))
      pure (.tup [], cellWrs r c cs ws)
    | .one (.eptr pl g sz i c) => do
      let (zs, ws) ← fitRow pl i ws c vv.cells
      let (e, x0, rows) ← ownAt ws pl g sz
      let row ← Q.ofO rows[i]?
      Q.guard (decide (c + n ≤ row.length) && zs.length == n)
      let old ← rowA an (slotOf x) ((row.drop c).take n)
      Q.guard (old.length == n)
      pure (.tup [], elWrsA pl i e.v c zs old x0 ws)
    | _ => Q.no
  | .bin tc op x y => do
    let a ← rd x
    let b ← rd y
    let r ← binA tc op a b
    pure (.one (.d r), [])
  | .app sz bytes x y => do
    let (a, ws) ← tk [] y
    let (src, ws) ← rowsOf sz ws a
    let (v, ws) ← tk ws x
    appToA sz bytes v ws src
  | .appS x y => do
    let a ← rd y
    match a with
    | .one (.d (.str s)) => do
      let (v, ws) ← tk [] x
      appToA 1 1 v ws (D.strB s)
    | _ => Q.no
  | .call f args => do
    let vf ← rd f
    match vf with
    | .one (.fn n first cap) => do
      let (vs, ws) ← rdArgs [] args
      callA an Cl dst n (first.map .one ++ vs ++ cap.map .one) ws
    | _ => Q.no
  | op => evOp Cl dst op

/-- What is known is laid out, so that nothing is reckoned twice. -/
def fNat {R : Type} : Nat → Nat → Nat → (Nat → Option R) → Option R
  | 0, _, _, _ => none
  | f + 1, i, g, K => match Nat.beq g i with | true => K i | false => fNat f (i + 1) g K
def fN {R : Type} (g : Nat) (K : Nat → Option R) : Option R := fNat 400 0 g K
def fRoot {R : Type} : Root → (Root → Option R) → Option R
  | .e i, K => K (.e i)
  | .l i, K => K (.l i)
  | .g i, K => K (.g i)
def fKey {R : Type} : Key → (Key → Option R) → Option R
  | .s i, K => K (.s i)
  | .b r c, K => fRoot r fun r => fN c fun c => K (.b r c)
  | .r r, K => fRoot r fun r => K (.r r)
  | .h i, K => K (.h i)
  | .a k, K => fKey k fun k => K (.a k)
def fTag {R : Type} : Tag → (Tag → Option R) → Option R
  | .im b, K => K (.im b)
  | .own, K => K .own
def fD {R : Type} : D → (D → Option R) → Option R
  | .int k n, K => K (.int k n)
  | .bool b, K => K (.bool b)
  | .str s, K => K (.str s)
  | .sl t sz rows, K => fTag t fun t => K (.sl t sz rows)
  | .dead, K => K .dead
def fC {R : Type} : C → (C → Option R) → Option R
  | .d x, K => fD x fun x => K (.d x)
  | .ptr r g c, K => fRoot r fun r => fN g fun g => fN c fun c => K (.ptr r g c)
  | .eptr pl g sz i c, K => fN g fun g => fN c fun c => K (.eptr pl g sz i c)
  | .view pl g sz off len, K => fN g fun g => K (.view pl g sz off len)
  | .appd pl g a sz rows, K => fN g fun g => fN a fun a => K (.appd pl g a sz rows)
  | .pp cells, K => K (.pp cells)
  | .fn f a b, K => K (.fn f a b)
  | .nilp, K => K .nilp
  | .nilf, K => K .nilf
  | .nili, K => K .nili
  | .ifc, K => K .ifc
  | .dead, K => K .dead
def fCs {R : Type} : List C → (List C → Option R) → Option R
  | [], K => K []
  | c :: t, K => fC c fun c => fCs t fun t => K (c :: t)
def fVt {R : Type} : List V → (List V → Option R) → Option R
  | [], K => K []
  | .one c :: t, K => fC c fun c => fVt t fun t => K (.one c :: t)
  | .agg cs :: t, K => fCs cs fun cs => fVt t fun t => K (.agg cs :: t)
  | .tup vs :: t, K => fVt t fun t => K (.tup vs :: t)
def fV {R : Type} : V → (V → Option R) → Option R
  | .one c, K => fC c fun c => K (.one c)
  | .agg cs, K => fCs cs fun cs => K (.agg cs)
  | .tup vs, K => fVt vs fun vs => K (.tup vs)
def fBs {R : Type} : List (List C) → (List (List C) → Option R) → Option R
  | [], K => K []
  | c :: t, K => fCs c fun c => fBs t fun t => K (c :: t)
def fKeep {R : Type} : Bool → (Bool → Option R) → Option R
  | true, K => K true
  | false, K => K false
def fWs {R : Type} : List Wr → (List Wr → Option R) → Option R
  | [], K => K []
  | ⟨k, v, b⟩ :: t, K => fKey k fun k => fV v fun v => fKeep b fun b => fWs t fun t => K (⟨k, v, b⟩ :: t)
def fSt {R : Type} : St → (St → Option R) → Option R
  | [], K => K []
  | (k, ⟨v, g⟩) :: t, K => fKey k fun k => fV v fun v => fN g fun g => fSt t fun t => K ((k, ⟨v, g⟩) :: t)
/-- The state alone; its entries are laid out but for their counts. -/
def fSpine {R : Type} : St → (St → Option R) → Option R
  | [], K => K []
  | (k, ⟨v, g⟩) :: t, K => fN g fun g => fSpine t fun t => K ((k, ⟨v, g⟩) :: t)

/-- A reading, in continuation form. -/
def runK {α R : Type} (S : St) : Q α → List Key → (α → List Key → Option R) → Option R
  | .ret a, rs, K => K a rs
  | .get k f, rs, K => runK S (f (S.get k)) (k :: rs) K
  | .cps h _ f, rs, K => h R fun b => runK S (f b) rs K
  | .no, _, _ => none

def withGuard {R : Type} (S : St) (g : Option (Nat × Bool)) (K : Bool → St → List Key → Option R) : Option R :=
  match g with
  | none => K true S []
  | some (t, b) => match S.get (.s t) with
    | ⟨.one (.d (.bool x)), c⟩ => qAsk x fun x' => K (x' == b) (S.put (.s t) ⟨.one (.d (.bool x')), c⟩) [.s t]
    | ⟨.tup [], _⟩ => K false S [.s t]
    | _ => none

def evOperA {R : Type} (an : Ann) (Cl : Oracle) (o : IOper) (S : St) (K : St → List Key → List Wr → Option R) : Option R :=
  withGuard S o.guard fun want S rs =>
    match want with
    | true => runK S (evOpA an Cl (o.dst.getD 0) o.op) rs fun x rs =>
      match o.dst with
      | some d => K S rs ({ k := .s d, v := x.1 } :: x.2)
      | none => K S rs x.2
    | false => match o.dst with
      | some d => K S rs [{ k := .s d, v := .tup [] }]
      | none => K S rs []

def evOpsA {R : Type} (an : Ann) (Cl : Oracle) : List IOper → St → (St → Option R) → Option R
  | [], S, K => K S
  | o :: t, S, K => evOperA an Cl o S fun S _ ws => fWs ws fun ws => fSpine (S.wrs ws) fun S => evOpsA an Cl t S K
def evOpsFA {R : Type} (an : Ann) (Cl : Oracle) : List IOper → St → List Foot → (St → List Foot → Option R) → Option R
  | [], S, fs, K => K S fs.reverse
  | o :: t, S, fs, K => evOperA an Cl o S fun S rs ws => fWs ws fun ws => fSpine (S.wrs ws) fun S => evOpsFA an Cl t S (⟨rs.reverse, ws.map (·.k)⟩ :: fs) K

/-- A state without what nobody asks for. -/
def St.prep (keep : Option (List Nat)) (gc : Bool) (S : St) : Option St :=
  (match keep with | some l => S.norm l | none => some S).bind fun S1 => if gc then S1.gc else some S1

def drawA {R : Type} (an : Ann) (Cl : Oracle) (ops : List IOper) (draw : Option (List (Nat × Nat))) (S : St) (K : St → Option R) : Option R :=
  match draw with
  | none => evOpsA an Cl ops S K
  | some [] => evOpsA an Cl ops S K
  | some ps => evOpsFA an Cl ops S [] fun S' fs => match pairsOk fs ps with | true => K S' | false => none

/-- Code as it is run here: a loop bears what its head forgets. -/
inductive KCode where
  | skip
  | reg (keep : Option (List Nat)) (gc : Bool) (ops : List IOper) (draw : Option (List (Nat × Nat)))
  | seq (a b : KCode)
  | cond (c : X) (a b : KCode)
  | block (id : Nat) (body : KCode)
  | loop (id : Nat) (keep : Option (List Nat)) (gc : Bool) (body : KCode)
  | exit (id : Nat)
  | ret
  deriving Inhabited

/-- The first region of a loop's body forgets at the head. -/
def addHead (keep : Option (List Nat)) (gc : Bool) : ICode → ICode
  | .reg _ _ ops draw => .reg keep gc ops draw
  | .seq a b => .seq (addHead keep gc a) b
  | .block id b => .block id (addHead keep gc b)
  | c => c
def KCode.headOk : KCode → Bool
  | .reg none false _ _ => true
  | .seq a _ => a.headOk
  | .block _ b => b.headOk
  | _ => false
def ofK : KCode → ICode
  | .skip => .skip
  | .reg keep gc ops draw => .reg keep gc ops draw
  | .seq a b => .seq (ofK a) (ofK b)
  | .cond c a b => .cond c (ofK a) (ofK b)
  | .block id b => .block id (ofK b)
  | .loop _ keep gc b => .loop (addHead keep gc (ofK b))
  | .exit id => .exit id
  | .ret => .ret

abbrev Kont (R : Type) := IExit → St → Option R

def seqK {R : Type} (f : St → Kont R → Option R) (K : Kont R) : Kont R := fun e S =>
  match e with
  | .norm => f S K
  | .exit i => K (.exit i) S
  | .ret => K .ret S
def blockK {R : Type} (id : Nat) (K : Kont R) : Kont R := fun e S =>
  match e with
  | .norm => K .norm S
  | .exit i => match Nat.beq i id with | true => K .norm S | false => K (.exit i) S
  | .ret => K .ret S
def nextK {R : Type} (keep : Option (List Nat)) (gc : Bool) (next : St → Option R) (K : Kont R) : Kont R := fun e S =>
  match e with
  | .norm => match S.prep keep gc with | some S1 => fSt S1 next | none => none
  | .exit i => K (.exit i) S
  | .ret => K .ret S
def iterK {R : Type} (id : Nat) (f : St → Kont R → Option R) (keep : Option (List Nat)) (gc : Bool) : Nat → St → Kont R → Option R
  | 0, _, _ => none
  | m + 1, S, K => f S (nextK keep gc (fun S1 => iterK id f keep gc m S1 K) K)

def condA {R : Type} (S : St) (c : X) (K : Bool → Option R) : Option R :=
  runK S (rd c) [] fun v _ => match v with
    | .one (.d (.bool b)) => qAsk b K
    | _ => none

def evCA {R : Type} (an : Ann) (Cl : Oracle) (n : Nat) : KCode → St → Kont R → Option R
  | .skip, S, K => K .norm S
  | .reg keep gc ops draw, S, K => match S.prep keep gc with
    | some S1 => fSt S1 fun S1 => drawA an Cl ops draw S1 fun S' => K .norm S'
    | none => none
  | .seq a b, S, K => evCA an Cl n a S (seqK (evCA an Cl n b) K)
  | .cond c a b, S, K => condA S c fun t => match t with
    | true => evCA an Cl n a S K
    | false => evCA an Cl n b S K
  | .block id b, S, K => evCA an Cl n b S (blockK id K)
  | .loop id keep gc b, S, K => match b.headOk with
    | true => match S.prep keep gc with
      | some S1 => fSt S1 fun S1 => iterK id (evCA an Cl n b) keep gc n S1 K
      | none => none
    | false => none
  | .exit id, S, K => K (.exit id) S
  | .ret, S, K => K .ret S

structure KFunc where
  nslots : Nat
  results : List RV
  body : KCode
  forget : Bool
  deriving Inhabited
def KFunc.fn (k : KFunc) : IFunc := ⟨k.nslots, k.results, ofK k.body, k.forget⟩

def retK (results : List RV) (forget : Bool) (bx : List (List C)) : Kont (V × List (List C)) := fun e S =>
  match e with
  | .exit _ => none
  | _ => runK S (evRet ⟨0, results, .skip, forget⟩ bx) [] fun x _ => fV x.1 fun v => fBs x.2 fun b => some (v, b)

def evBodyA (an : Ann) (Cl : Oracle) (n : Nat) (fn : KFunc) (args : List V) (bx : List (List C)) : Option (V × List (List C)) :=
  match Nat.ble args.length fn.nslots with
  | true => evCA an Cl n fn.body (argEnts 0 args ++ boxesEnts 0 bx) (retK fn.results fn.forget bx)
  | false => none

end Go.Abs
