/- From the model's code to the evaluator's: types become sizes, functions become names. -/
import Derived.Test.YtjndnconlakjkaaAbsCode
import GoSem.Core.Program
import GoSem.Core.Region
import GoSem.Core.Check
import GoSem.Core.Layout
import GoSem.Op.Equal
namespace Go.Abs

/-- What the compilation is given: the names of functions; of a function the first slot that is no variable; of each region what is asked for later. -/
structure Hint where
  nt : Nat
  tmp0 : Nat
  res : List Nat
  lend : List (Nat × List Nat)      -- of functions (by name's number) the parameters that they write into
  regs : List (Nat × (Option (List Nat) × Bool))
  deriving Inhabited

def isU8 : Option TypeDesc → Bool
  | some (.int .u8) => true
  | _ => false

section
variable (P : Program)

def szOf (t : TypeId) : Option Nat := (P.info? t).map (·.size)
def elemSz (t : TypeId) : Option Nat :=
  match P.underlying t with
  | some (.slice e) => szOf P e
  | _ => none

/-- A cell's constant. 'sz': the size of a slice's elements. -/
def constC (sz : Nat) : Value → Option C
  | .int k n => some (.d (.int k n))
  | .bool b => some (.d (.bool b))
  | .string s => some (.d (.str s.data.toList))
  | .slice none 0 0 => some (.d (.sl (.im true) sz []))
  | .pointer none => some .nilp
  | .nilFunc => some .nilf
  | .nilIface => some .nili
  | _ => none

def constV (sz : Nat) (v : Value) : Option V := (constC sz v).map .one

/-- The sizes of the elements of the slices among a type's cells. -/
def cellSz : Nat → TypeId → Option (List Nat)
  | 0, _ => none
  | n + 1, t =>
    match P.underlying t with
    | some (.struct fs) => fs.toList.foldr (fun f acc => match cellSz n f.type, acc with | some a, some b => some (a ++ b) | _, _ => none) (some [])
    | some (.array k e) => (cellSz n e).map fun l => (List.replicate k l).flatten
    | some (.slice e) => (szOf P e).map fun s => [s]
    | _ => some [0]

def zeroC (t : TypeId) : Option (List C) :=
  match P.info? t, cellSz P 12 t with
  | some i, some l => match i.zero with
    | some z => if z.cells.size = l.length ∧ z.cells.size = i.size then (l.zip z.cells.toList).mapM fun x => constC x.1 x.2 else none
    | none => none
  | _, _ => none

def aggD : TypeDesc → Bool
  | .struct _ => true
  | .array _ _ => true
  | _ => false
/-- How many cells a type has, and whether they stand as a whole. -/
def aggOf (t : TypeId) : Option (Nat × Bool) :=
  match P.info? t, P.underlying t with
  | some i, some d => some (i.size, aggD d)
  | _, _ => none

/-- Has a cell that is a slice? -/
def hasSl : Nat → TypeId → Bool
  | 0, _ => true
  | n + 1, t =>
    match P.underlying t with
    | some (.struct fs) => fs.any fun f => hasSl n f.type
    | some (.array _ e) => hasSl n e
    | some (.slice _) => true
    | _ => false

variable (nm : FuncId → Option Nat) (h : Hint)


def compX (t : TypeId) (x : Operand) : Option X :=
  match x with
  | .tmp i => some (if h.tmp0 ≤ i ∧ hasSl P 12 t = true then .t i else .s i)
  | .const v => (constV ((elemSz P t).getD 0) v).map .c
  | .func f => (nm f).map .f
  | .global _ => none

/-- An operand that is only looked at. -/
def lookX (t : TypeId) (x : Operand) : Option X :=
  match x with
  | .tmp i => some (.s i)
  | .const v => (constV ((elemSz P t).getD 0) v).map .c
  | .func f => (nm f).map .f
  | .global _ => none

def flatField (f : Field) : Option Fl :=
  if f.name = "_" then none else
  match P.underlying f.type with
  | some (.int _) => some .int
  | some .bool => some .bool
  | some .string => some .str
  | _ => none
def flatFields : Nat → List Field → Option (List Fl)
  | _, [] => some []
  | i, f :: t => if f.offset = i then
      match flatField P f, flatFields (i + 1) t with
      | some x, some l => some (x :: l)
      | _, _ => none
    else none
def flatStruct (t : TypeId) : Option (List Fl) :=
  match P.underlying t with
  | some (.struct fs) => if P.stoodInHeld t = false ∧ P.eqGuardType P.depth t = false then flatFields P 0 fs.toList else none
  | _ => none

def isConstO : Operand → Bool
  | .const _ => true
  | _ => false

def classOf (op : BinOp) (t : TypeId) (y : Operand) : Option TC :=
  match op with
  | .eql | .neq =>
    match P.underlying t with
    | some (.int _) => some .other
    | some .string => some .other
    | some .bool => some .bool
    | some (.struct _) => (flatStruct P t).map .struct
    | some (.pointer _) => some .ptr
    | some (.slice _) => some .slice
    | some (.func _ _ _) => some .func
    | some (.interface _) => if isConstO y then some .iface else none
    | _ => none
  | _ => some .other

def compCall (c : Call) : Option IOp :=
  match c.callee with
  | .value f => do
    let f ← lookX P nm 0 f
    if c.args.size = c.argTypes.size then
      let args ← (c.args.toList.zip c.argTypes.toList).mapM fun x => compX P nm h x.2 x.1
      let ls := match f with | .f n => (h.lend.lookup n).getD [] | _ => []
      pure (.call f (args.zipIdx.map fun x => (ls.contains x.2, x.1)))
    else none
  | .builtin .len =>
    match c.args.toList, c.argTypes.toList with
    | [x], [t] => match P.underlying t with
      | some .string => (lookX P nm t x).map (.len true)
      | some (.slice _) => (lookX P nm t x).map (.len false)
      | _ => none
    | _, _ => none
  | .builtin .append =>
    match c.args.toList, c.argTypes.toList with
    | [x, y], [t, u] => match P.underlying t with
      | some (.slice e) => do
        let i ← P.info? e
        let _ ← zeroC P e
        let x ← compX P nm h t x
        match P.underlying u with
        | some (.slice _) => do let y ← compX P nm h u y; if i.size = 0 ∨ i.bytes = 0 then none else pure (.app i.size i.bytes x y)
        | some .string => do let y ← lookX P nm u y; if i.size = 1 ∧ i.bytes = 1 ∧ isU8 (P.underlying e) = true then pure (.appS x y) else none
        | _ => none
      | _ => none
    | _, _ => none
  | .builtin .min =>
    match c.args.toList, c.argTypes.toList with
    | [x, y], [t, u] => do let x ← lookX P nm t x; let y ← lookX P nm u y; pure (.min x y)
    | _, _ => none
  | .builtin .max =>
    match c.args.toList, c.argTypes.toList with
    | [x, y], [t, u] => do let x ← lookX P nm t x; let y ← lookX P nm u y; pure (.max x y)
    | _, _ => none
  | _ => none

/-- A part of a struct: where it goes, how many cells, the operand. -/
def compPart (fs : Array Field) (p : Nat × Operand) : Option (Nat × Nat × X) :=
  match fs[p.1]? with
  | some f =>
    match szOf P f.type, compX P nm h f.type p.2 with
    | some n, some x => if n = 0 then none else some (f.offset, n, x)
    | _, _ => none
  | none => none

/-- A part of a slice. -/
def compElem (e : TypeId) (p : Nat × Operand) : Option (Nat × X) := (compX P nm h e p.2).map fun x => (p.1, x)

def compOp (o : Oper) : Option IOp :=
  match o.op with
  | .move x => (compX P nm h o.type x).map .mov
  | .assign x => (compX P nm h o.type x).map .mov
  | .pick c a b => do let c ← lookX P nm 0 c; let a ← lookX P nm o.type a; let b ← lookX P nm o.type b; pure (.pick c a b)
  | .alloc e => (zeroC P e).map .alloc
  | .box e v => do let n ← szOf P e; let x ← compX P nm h e v; if n = 0 then none else pure (.box n x)
  | .build t parts => do
    let z ← zeroC P t
    match P.underlying t with
    | some (.struct fs) => if (fs.toList.all fun f => (szOf P f.type).isSome) = true then (parts.toList.mapM (compPart P nm h fs)).map (.build z) else none
    | _ => none
  | .buildSlice t len parts => do
    match P.underlying t with
    | some (.slice e) => do
      let z ← zeroC P e
      let row ← dataL z
      if len * z.length > 2 ^ 24 ∨ z.length = 0 then none else (parts.toList.mapM (compElem P nm h e)).map (.bslice z.length (List.replicate len row))
    | _ => none
  | .load t a => do let n ← aggOf P t; let x ← lookX P nm 0 a; if n.1 = 0 then none else pure (.load n.1 n.2 x)
  | .store t a v => do let n ← szOf P t; let x ← lookX P nm 0 a; let v ← compX P nm h t v; if n = 0 then none else pure (.store (match a with | .tmp i => h.res.contains i | _ => false) n x v)
  | .nilCheck x => (lookX P nm 0 x).map .nilck
  | .binOp op t x y _ => do
    let tc ← classOf P op t y
    let x' ← lookX P nm t x
    let y' ← lookX P nm t y
    pure (.bin tc op x' y')
  | .unOp op t x => (lookX P nm t x).map (.un op)
  | .convert s d x => do
    let x' ← lookX P nm s x
    match P.underlying s, P.underlying d with
    | some (.int _), some (.int k) => pure (.conv (.int k) x')
    | some .string, some .string => pure (.conv .same x')
    | some .string, some (.slice e) => if isU8 (P.underlying e) = true then pure (.conv .strBytes x') else none
    | some (.slice e), some .string => if isU8 (P.underlying e) = true then pure (.conv .bytesStr x') else none
    | _, _ => none
  | .makeFunc (.func f) a b => do
    let f ← nm f
    let a ← a.toList.mapM (lookX P nm 0)
    let b ← b.toList.mapM (lookX P nm 0)
    pure (.mkfn f a b)
  | .makeSlice t l c =>
    match P.underlying t with
    | some (.slice e) => do
      let i ← P.info? e
      let z ← zeroC P e
      let row ← dataL z
      let l ← lookX P nm 0 l
      let c ← lookX P nm 0 c
      if i.size = 0 then none else pure (.mkslice i.size i.bytes row l c)
    | _ => none
  | .slice t x lo hi mx => do
    let x ← lookX P nm t x
    let lo ← (match lo with | none => some none | some v => (lookX P nm 0 v).map some)
    let hi ← (match hi with | none => some none | some v => (lookX P nm 0 v).map some)
    let mx ← (match mx with | none => some none | some v => (lookX P nm 0 v).map some)
    match P.underlying t with
    | some .string => if mx.isSome then none else pure (.sliceS x lo hi)
    | some (.slice e) => do let n ← szOf P e; if n = 0 ∨ (mx.isSome ∧ hi.isNone) then none else pure (.slice n x lo hi mx)
    | _ => none
  | .fieldAddr s x f =>
    match P.underlying s with
    | some (.struct fs) => do
      let f ← fs[f]?
      let n ← szOf P f.type
      let x ← lookX P nm 0 x
      if n = 0 then none else pure (.fieldA f.offset x)
    | _ => none
  | .field t x f =>
    match P.underlying t with
    | some (.struct fs) => do
      let f ← fs[f]?
      let n ← aggOf P f.type
      let x ← lookX P nm t x
      pure (.field f.offset n.1 n.2 x)
    | _ => none
  | .indexAddr t x i =>
    match P.underlying t with
    | some (.slice e) => do let n ← szOf P e; let x ← lookX P nm t x; let i ← lookX P nm 0 i; if n = 0 then none else pure (.indexA n x i)
    | some (.array k e) => do let n ← szOf P e; let x ← lookX P nm 0 x; let i ← lookX P nm 0 i; if n = 0 then none else pure (.indexR k n x i)
    | _ => none
  | .index t x i =>
    match P.underlying t with
    | some .string => do let x ← lookX P nm t x; let i ← lookX P nm 0 i; pure (.index x i)
    | _ => none
  | .extract x j => (lookX P nm 0 x).map (.extract j)
  | .makeInterface t x =>
    match P.underlying t with
    | some (.interface _) => none
    | some _ => (lookX P nm t x).map .mkif
    | none => none
  | .call c => compCall P nm h c
  | _ => none

/-- The pairs of operations that may run in either order. -/
def unordered (ops : Array Oper) : List (Nat × Nat) :=
  let b := Region.before ops
  (List.range ops.size).flatMap fun j => (List.range j).filterMap fun i =>
    if (b.getD j 0).testBit i then none else some (i, j)

/-- What binds an operation stands ahead of it. -/
def edgesOk (ops : Array Oper) : Bool :=
  (List.range ops.size).all fun i => ((ops[i]?).map fun o => o.after.all fun e => !Region.binds .any e || decide (e.on < i)).getD false

def compOper (ops : Array Oper) (o : Oper) : Option IOper :=
  if (o.dst.all fun d => decide (d < h.nt)) = true then
    match o.guard with
    | none => some ⟨o.dst, (compOp P nm h o).getD .bad, none⟩
    | some (j, b) =>
      match (ops[j]?).bind (·.dst) with
      | some d => some ⟨o.dst, (compOp P nm h o).getD .bad, some (d, b)⟩
      | none => none
  else none
def compOps (ops : Array Oper) : Option (List IOper) := ops.toList.mapM (compOper P nm h ops)

def hintOf (l : List (Nat × (Option (List Nat) × Bool))) (id : Nat) : Option (List Nat) × Bool :=
  match l with
  | [] => (none, false)
  | x :: t => if x.1 = id then x.2 else hintOf t id

def compC : Code → Option ICode
  | .skip => some .skip
  | .region id ops draw => do
    let l ← compOps P nm h ops
    if draw = true ∧ edgesOk ops = false then none else
    pure (.reg (hintOf h.regs id).1 (hintOf h.regs id).2 l (if draw then some (unordered ops) else none))
  | .seq a b => do let x ← compC a; let y ← compC b; pure (.seq x y)
  | .cond c a b => do let c ← lookX P nm 0 c; let x ← compC a; let y ← compC b; pure (.cond c x y)
  | .block id b => (compC b).map (.block id)
  | .loop b => (compC b).map .loop
  | .exit id => some (.exit id)
  | .ret => some .ret
  | _ => some (.reg none false [⟨none, .bad, none⟩] none)

def compR : ResultVar → Option RV
  | .tmp t => some (.slot t)
  | .cell a t => do let n ← aggOf P t; pure (.cell a n.1 n.2)

def compF (f : Func) (forget : Bool) : Option IFunc := do
  let c ← f.body
  if h.nt ≠ f.ntmps then none else
  let b ← compC P nm h c
  let rs ← f.results.toList.mapM (compR P)
  pure ⟨f.ntmps, rs, b, forget⟩
end
end Go.Abs
