/- An evaluator of the model's code over plain data, and that what it answers the model does: part 1 of 11. -/
import GoSem.Core.Code
import GoSem.Core.Machine
import GoSem.Core.Program
import GoSem.Core.Region
import GoSem.Core.Check
import GoSem.Core.Layout
import GoSem.Op.Equal
import Derived.Calls
import Derived.Laws.Sem
import Derived.Laws.World
set_option linter.unusedVariables false
set_option linter.unusedSimpArgs false
namespace Go.Abs
section
inductive Tag where | im (nil : Bool) | own
  deriving DecidableEq
inductive D where
  | int (k : IntKind) (n : Int)
  | bool (b : Bool)
  | str (s : List UInt8)
  | sl (t : Tag) (sz : Nat) (rows : List (List D))
  | dead
  deriving Inhabited
def isU8D : D → Bool
  | .int .u8 _ => true
  | _ => false
def u8Row : List D → Bool
  | [d] => isU8D d
  | _ => false
def noU8 (rows : List (List D)) : Bool := rows.isEmpty || rows.any fun r => !u8Row r
def u8ok (bytes : Nat) (src : List (List D)) (em : Bool) : Bool := noU8 src || bytes == 1
def u8st (z old : D) : Bool := !isU8D z || isU8D old
def u8sts : List D → List D → Bool
  | z :: zs, o :: os => u8st z o && u8sts zs os
  | _, _ => true
inductive Root where | e (i : Nat) | l (i : Nat) | g (i : Nat)
  deriving DecidableEq, Inhabited
def Root.isG : Root → Bool
  | .g _ => true
  | _ => false
inductive Key where | s (i : Nat) | b (r : Root) (c : Nat) | r (r : Root) | h (i : Nat) | a (k : Key)
  deriving DecidableEq, Inhabited
structure Place where
  k : Key
  j : Nat
  p : List (Nat × Nat)
  deriving DecidableEq, Inhabited
def Place.sub (pl : Place) (i c : Nat) : Place := { pl with p := pl.p ++ [(i, c)] }
inductive C where
  | d (x : D)
  | ptr (r : Root) (g c : Nat)
  | eptr (pl : Place) (g sz i c : Nat)
  | pp (cells : List D)
  | view (pl : Place) (g sz off len : Nat)
  | appd (pl : Place) (g a sz : Nat) (rows : List (List D))
  | fn (f : Nat) (first cap : List C)
  | nilp | nilf | nili
  | ifc
  | bld (t : Nat) -- the first cell of a strings.Builder (a block of that type by itself): nil, or where it lies
  | mp (x : D) -- what lies in a map that is the function's own (in a ghost cell): rows of a key and a bool
  | mref (i g : Nat) -- that map
  | dead
  deriving Inhabited
inductive V where
  | one (c : C)
  | agg (cs : List C)
  | tup (vs : List V)
  deriving Inhabited
abbrev fnsTag : Nat := 1000000000000
def isFn (n : Nat) : Bool := Nat.ble n 999999999999
theorem isFn_lt {n : Nat} (h : isFn n = true) : n < fnsTag := Nat.lt_succ_of_le (Nat.le_of_ble_eq_true h)
def V.dead : V := .one .dead
def boxN : V → Nat
  | .one (.d (.int _ n)) => n.toNat
  | _ => 0
def sizeV (n : Nat) : V := .one (.d (.int .i64 n))
structure Ent where
  v : V
  g : Nat
  deriving Inhabited
abbrev St := List (Key × Ent)
def St.get (S : St) (k : Key) : Ent :=
  match S with
  | [] => ⟨.one .dead, 0⟩
  | (k', e) :: t => if k' = k then e else St.get t k
def St.put (S : St) (k : Key) (e : Ent) : St :=
  match S with
  | [] => [(k, e)]
  | (k', e') :: t => if k' = k then (k, e) :: t else (k', e') :: St.put t k e
structure Wr where
  k : Key
  v : V
  keep : Bool := false -- the count stays: no slice's head in the entry turns
  deriving Inhabited
def St.wr (S : St) (x : Wr) : St := S.put x.k ⟨x.v, if x.keep then (S.get x.k).g else (S.get x.k).g + 1⟩
def St.wrs (S : St) : List Wr → St
  | [] => S
  | x :: t => (S.wrs t).wr x
def qTest {R : Type} (b : Bool) (k : Unit → Option R) : Option R := bif b then k () else none
def qAsk {R : Type} (b : Bool) (k : Bool → Option R) : Option R := bif b then k true else k false
def qOwn {R : Type} (d : D) (k : Nat → List (List D) → Option R) : Option R := match d with | .sl .own sz rows => k sz rows | _ => none
def qOpt {β R : Type} (o : Option β) (k : β → Option R) : Option R := match o with | some b => k b | none => none
inductive Q (α : Type) : Type 1 where
  | ret (a : α)
  | get (k : Key) (f : Ent → Q α)
  | cps {β : Type} (h : (R : Type) → (β → Option R) → Option R) (nat : ∀ (R : Type) (k : β → Option R), h R k = (h β some).bind k) (f : β → Q α)
  | no
namespace Q
def bind {α β : Type} : Q α → (α → Q β) → Q β
  | .ret a, f => f a
  | .get k g, f => .get k fun e => (g e).bind f
  | .cps h nat g, f => .cps h nat fun b => (g b).bind f
  | .no, _ => .no
instance : Monad Q where
  pure := Q.ret
  bind := Q.bind
def at_ (k : Key) : Q Ent := .get k .ret
def run {α : Type} (S : St) : Q α → Option α
  | .ret a => some a
  | .get k f => (f (S.get k)).run S
  | .cps h _ f => h α fun b => (f b).run S
  | .no => none
def reads {α : Type} (S : St) : Q α → List Key
  | .ret _ => []
  | .get k f => k :: (f (S.get k)).reads S
  | .cps h _ f => (h (List Key) fun b => some ((f b).reads S)).getD []
  | .no => []
def guard (b : Bool) : Q Unit := .cps (fun _ k => qTest b fun _ => k ()) (by intro R k; cases b <;> rfl) .ret
def ofO {α : Type} (o : Option α) : Q α := .cps (fun _ k => qOpt o k) (by intro R k; cases o <;> rfl) .ret
def ask (b : Bool) : Q Bool := .cps (fun _ k => qAsk b k) (by intro R k; cases b <;> rfl) .ret
def asOwn (d : D) : Q D := .cps (fun _ k => qOwn d fun sz rows => k (.sl .own sz rows)) (by intro R k; unfold qOwn; split <;> rfl) .ret
end Q
section
variable {α β : Type} (S : St)
@[simp] theorem Q.run_ret (a : α) : (Q.ret a).run S = some a := rfl
@[simp] theorem Q.run_pure (a : α) : (pure a : Q α).run S = some a := rfl
@[simp] theorem Q.run_no : (Q.no : Q α).run S = none := rfl
@[simp] theorem Q.run_get (k : Key) (f : Ent → Q α) : (Q.get k f).run S = (f (S.get k)).run S := rfl
@[simp] theorem Q.run_at (k : Key) : (Q.at_ k).run S = some (S.get k) := rfl
theorem Q.run_bind' (x : Q α) (f : α → Q β) : (x.bind f).run S = (x.run S).bind fun a => (f a).run S := by
  induction x with
  | ret a => rfl
  | get k g ih => simp only [Q.bind, Q.run]; exact ih _
  | cps h nat g ih =>
    simp only [Q.bind, Q.run]
    rw [nat, nat α]
    cases hh : h _ some with
    | none => rfl
    | some b => simp only [Option.bind]; exact ih b
  | no => rfl
@[simp] theorem Q.run_bind (x : Q α) (f : α → Q β) : (x >>= f).run S = (x.run S).bind fun a => (f a).run S := Q.run_bind' S x f
@[simp] theorem Q.run_guard (b : Bool) : (Q.guard b).run S = if b then some () else none := by cases b <;> rfl
@[simp] theorem Q.run_ofO (x : Option α) : (Q.ofO x).run S = x := by cases x <;> rfl
@[simp] theorem Q.run_ask (b : Bool) : (Q.ask b).run S = some b := by cases b <;> rfl
theorem Q.run_asOwn {d y : D} (h : (Q.asOwn d).run S = some y) : y = d := by
  have h' : (qOwn d fun sz rows => some (D.sl .own sz rows)) = some y := h
  unfold qOwn at h'
  split at h'
  · simpa using h'.symm
  · cases h'
@[simp] theorem Q.run_ite (c : Prop) [Decidable c] (x y : Q α) : (if c then x else y).run S = if c then x.run S else y.run S := by split <;> rfl
theorem Q.run_congr {S S' : St} (x : Q α) (h : ∀ k ∈ x.reads S, S'.get k = S.get k) : x.run S' = x.run S ∧ x.reads S' = x.reads S := by
  induction x with
  | ret a => exact ⟨rfl, rfl⟩
  | get k f ih =>
    have hk := h k (by simp [Q.reads])
    have := ih (S.get k) (fun k' hk' => h k' (by simp [Q.reads, hk']))
    simp only [Q.run, Q.reads, hk]
    exact ⟨this.1, by rw [this.2]⟩
  | cps c nat f ih =>
    simp only [Q.run, Q.reads] at h ⊢
    rw [nat, nat _ (fun b => (f b).run S), nat (List Key) (fun b => some ((f b).reads S')), nat (List Key) (fun b => some ((f b).reads S))]
    rw [nat (List Key)] at h
    cases hc : c _ some with
    | none => exact ⟨rfl, rfl⟩
    | some b =>
      rw [hc] at h
      have := ih b h
      simp only [Option.bind, Option.getD]
      exact this
  | no => exact ⟨rfl, rfl⟩
end
theorem St.get_put (S : St) (k k' : Key) (e : Ent) : (S.put k e).get k' = if k = k' then e else S.get k' := by
  induction S with
  | nil => simp only [St.put, St.get]
  | cons x t ih =>
    obtain ⟨k0, e0⟩ := x
    simp only [St.put]
    by_cases h0 : k0 = k
    · subst h0; simp only [if_true, St.get]; by_cases h : k0 = k' <;> simp [h]
    · simp only [h0, if_false, St.get, ih]
      by_cases h1 : k0 = k'
      · subst h1; simp [Ne.symm h0]
      · simp [h1]
end
section
inductive X where | s (i : Nat) | t (i : Nat) | c (v : V) | f (n : Nat)
  deriving Inhabited
inductive Cv where | int (k : IntKind) | bytesStr | strBytes | same
  deriving DecidableEq
inductive Fl where | int | bool | str
  deriving DecidableEq, Inhabited
inductive TC where | other | bool | struct (fs : List Fl) | ptr | slice | func | iface
  deriving Inhabited
inductive IOp where
  | mov (x : X)
  | nilck (x : X)
  | pick (c a b : X)
  | alloc (zero : List C)
  | allocB (t : Nat) (zero : List C)
  | box (n : Nat) (x : X)
  | boxB (t n : Nat) (x : X)
  | build (zero : List C) (parts : List (Nat × Nat × X))
  | fslice (parts : List X)
  | bslice (sz : Nat) (rows : List (List D)) (parts : List (Nat × X))
  | load (n : Nat) (agg : Bool) (x : X)
  | store (mv : Bool) (n : Nat) (x v : X)
  | bin (tc : TC) (op : BinOp) (x y : X)
  | un (op : UnOp) (x : X)
  | conv (c : Cv) (x : X)
  | mkfn (f : Nat) (first cap : List X)
  | mkslice (sz bytes : Nat) (zero : List D) (l c : X)
  | sliceS (x : X) (lo hi : Option X)
  | slice (sz : Nat) (x : X) (lo hi mx : Option X)
  | fieldA (off : Nat) (x : X)
  | field (off n : Nat) (agg : Bool) (x : X)
  | indexA (sz : Nat) (x i : X)
  | indexR (n sz : Nat) (x i : X)
  | index (x i : X)
  | extract (j : Nat) (x : X)
  | len (str : Bool) (x : X)
  | app (sz bytes : Nat) (x y : X)
  | appS (x y : X)
  | min (x y : X)
  | max (x y : X)
  | call (f : X) (args : List (Bool × X))
  | mkif (x : X)
  | sdata (x : X)
  | ustr (x n : X)
  | mkmap
  | mget (m k : X)
  | mset (m k v : X)
  | bad
  deriving Inhabited
def fnsOf (tag : Nat) : C → Option (List C)
  | .fn t [] l => match Nat.beq t tag with | true => some l | false => none
  | _ => none
theorem fnsOf_inv {tag : Nat} {c : C} {l : List C} (h : fnsOf tag c = some l) : c = .fn tag [] l := by
  unfold fnsOf at h
  split at h
  · split at h
    · rename_i t l' hb
      cases h
      rw [Nat.eq_of_beq_eq_true hb]
    · cases h
  · cases h
def C.isF : C → Bool
  | .fn n _ _ => isFn n
  | _ => false
def C.own : C → Bool
  | .d (.sl .own _ _) => true
  | .appd .. => true
  | .bld _ => true
  | .mp _ => true
  | _ => false
def V.cells : V → List C
  | .one c => [c]
  | .agg cs => cs
  | .tup _ => []
def V.own (v : V) : Bool := v.cells.any C.own
mutual
def plainD : D → D
  | .int k n => .int k n
  | .bool b => .bool b
  | .str s => .str s
  | .sl .own sz rows => .sl (.im false) sz (plainRs rows)
  | .sl (.im b) sz rows => .sl (.im b) sz rows
  | .dead => .dead
def plainR : List D → List D
  | [] => []
  | d :: t => plainD d :: plainR t
def plainRs : List (List D) → List (List D)
  | [] => []
  | r :: t => plainR r :: plainRs t
end
def C.plain : C → C
  | .d x => .d (plainD x)
  | .mp _ => .dead
  | c => c
def V.plain : V → V
  | .one c => .one c.plain
  | .agg cs => .agg (cs.map C.plain)
  | .tup vs => .tup vs
def C.look (k : Key) (g j : Nat) : C → C
  | .d (.sl .own sz rows) => .view ⟨k, j, []⟩ g sz 0 rows.length
  | .appd .. => .dead
  | .bld _ => .dead
  | .mp _ => .dead
  | c => c
def lookL (k : Key) (g : Nat) : Nat → List C → List C
  | _, [] => []
  | j, c :: cs => c.look k g j :: lookL k g (j + 1) cs
def V.look (k : Key) (g : Nat) : V → V
  | .one c => .one (c.look k g 0)
  | .agg cs => .agg (lookL k g 0 cs)
  | .tup vs => .tup vs
def navD : D → List (Nat × Nat) → Option D
  | d, [] => some d
  | .sl .own _ rows, (i, c) :: p => ((rows[i]?).bind (·[c]?)).bind (navD · p)
  | _, _ :: _ => none
def setD (x : D) (p : List (Nat × Nat)) (y : D) : D :=
  match p with
  | [] => y
  | (i, c) :: p =>
    match x with
    | .sl .own sz rows => .sl .own sz (rows.set i ((rows.getD i []).set c (setD (((rows.getD i [])).getD c (.bool false)) p y)))
    | x => x
def V.setCell (v : V) (j : Nat) (c : C) : V :=
  match v with
  | .one c0 => if j = 0 then .one c else .one c0
  | .agg cs => .agg (cs.set j c)
  | .tup vs => .tup vs
def D.flat : D → Bool
  | .sl .. => false
  | .dead => false
  | _ => true
def C.flat : C → Bool
  | .d x => x.flat
  | _ => false
def V.flat : V → Bool
  | .one c => c.flat
  | .agg cs => cs.all C.flat
  | .tup vs => go vs
where go : List V → Bool
  | [] => true
  | v :: t => v.flat && go t
def rd : X → Q V
  | .s i => do let e ← Q.at_ (.s i); pure (e.v.look (.s i) e.g)
  | .t i => do let e ← Q.at_ (.s i); pure (e.v.look (.s i) e.g)
  | .c v => pure v
  | .f n => pure (.one (.fn n [] []))
def setWr (ws : List Wr) (k : Key) (v : V) : List Wr := { k, v } :: ws
def getWr : List Wr → Key → Option V
  | [], _ => none
  | x :: t, k => if x.k = k then some x.v else getWr t k
def atP (ws : List Wr) (k : Key) : Q Ent := do
  let e ← Q.at_ k
  match getWr ws k with
  | some v => pure ⟨v, e.g⟩
  | none => pure e
def fresh (ws : List Wr) (k : Key) : Bool := (getWr ws k).isNone && (getWr ws (.a k)).isNone
def tk (ws : List Wr) : X → Q (V × List Wr)
  | .t i => do
    let e ← Q.at_ (.s i)
    Q.guard (getWr ws (.s i)).isNone
    if e.v.own then pure (e.v, setWr ws (.s i) V.dead) else pure (e.v, ws)
  | x => do let v ← rd x; pure (v, ws)
def navQ : D → List (Nat × Nat) → Q D
  | d, [] => pure d
  | .sl .own _ rows, (i, c) :: p => do
    let row ← Q.ofO rows[i]?
    let y ← Q.ofO row[c]?
    let y ← Q.asOwn y
    navQ y p
  | _, _ :: _ => Q.no
def ownAt (ws : List Wr) (pl : Place) (g sz : Nat) : Q (Ent × D × List (List D)) := do
  let e ← atP ws pl.k
  Q.guard (e.g == g)
  match e.v.cells[pl.j]? with
  | some (.d x) => do
    let y ← navQ x pl.p
    match y with
    | .sl .own sz' rows => do Q.guard (sz' == sz); pure (e, x, rows)
    | _ => Q.no
  | _ => Q.no
def st (ws : List Wr) : C → Q (C × List Wr)
  | .view pl g sz off len => do
    let (e, x, rows) ← ownAt ws pl g sz
    Q.guard (decide (off + len ≤ rows.length))
    pure (.d (.sl (.im false) sz (plainRs ((rows.drop off).take len))), setWr ws pl.k (e.v.setCell pl.j (.d (setD x pl.p (.sl (.im false) sz (plainRs rows))))))
  | .appd pl g a sz rows => do
    let (e, x, old) ← ownAt ws pl g sz
    let ea ← Q.at_ (.a pl.k)
    Q.guard (ea.g == a && fresh ws pl.k)
    pure (.d (.sl (.im false) sz (plainRs rows)), setWr ws pl.k (e.v.setCell pl.j (.d (setD x pl.p (.sl (.im false) sz (plainRs old))))))
  | .eptr .. => Q.no
  | .bld _ => Q.no
  | .mp _ => Q.no
  | .mref .. => Q.no
  | .dead => Q.no
  | c => pure (c, ws)
def stL (ws : List Wr) : List C → Q (List C × List Wr)
  | [] => pure ([], ws)
  | c :: cs => do
    let (c', ws) ← st ws c
    let (cs', ws) ← stL ws cs
    pure (c' :: cs', ws)
def killAt (v : V) (pl : Place) (x : D) : V := v.setCell pl.j (.d (setD x pl.p .dead))
def settle (ws : List Wr) (pl : Place) (g a sz : Nat) (rows : List (List D)) : Q (C × List Wr) := do
  let (e, x, _) ← ownAt ws pl g sz
  let ea ← Q.at_ (.a pl.k)
  Q.guard (ea.g == a && fresh ws pl.k)
  pure (.d (.sl .own sz rows), setWr ws pl.k (killAt e.v pl x))
def stAt (ws : List Wr) (P : Place) : C → Q (C × List Wr)
  | .appd pl g a sz rows => if pl = P then settle ws pl g a sz rows else st ws (.appd pl g a sz rows)
  | c => st ws c
def Key.mine : Key → Bool
  | .b (.e _) _ => false
  | _ => true
def stMv (ws : List Wr) (P : Place) : C → Q (C × List Wr)
  | .view pl g sz off len => do
    let (e, x, rows) ← ownAt ws pl g sz
    let t ← Q.ask (!(pl.k == P.k) && pl.k.mine && (off == 0 && len == rows.length && !rows.isEmpty))
    if t then
      pure (.d (.sl .own sz rows), setWr ws pl.k (killAt e.v pl x))
    else st ws (.view pl g sz off len)
  | .appd pl g a sz rows =>
    if !(pl.k == P.k) && pl.k.mine then settle ws pl g a sz rows
    else stAt ws P (.appd pl g a sz rows)
  | c => st ws c
def mkV (agg : Bool) (cs : List C) : Q V :=
  if agg then pure (.agg cs) else match cs with
    | [c] => pure (.one c)
    | _ => Q.no
def readCells (r : Root) : Nat → Nat → Q (List C)
  | _, 0 => pure []
  | c, n + 1 => do
    let e ← Q.at_ (.b r c)
    match e.v with
    | .one x => do let t ← readCells r (c + 1) n; pure (x.look (.b r c) e.g 0 :: t)
    | _ => Q.no
def lookD (pl : Place) (g : Nat) : D → C
  | .sl .own sz rows => .view pl g sz 0 rows.length
  | y => .d y
def lookRow (pl : Place) (g i : Nat) : Nat → List D → List C
  | _, [] => []
  | c, x :: t => lookD (pl.sub i c) g x :: lookRow pl g i (c + 1) t
def cellWrs (r : Root) : Nat → List C → List Wr → List Wr
  | _, [], ws => ws
  | c, x :: t, ws => cellWrs r (c + 1) t ({ k := .b r c, v := .one x } :: ws)
def boxed (dst : Nat) (cs : List C) (ws : List Wr) : Q (V × List Wr) := do
  let e ← atP ws (.r (.l dst))
  Q.guard (boxN e.v == 0 || boxN e.v == cs.length)
  pure (.one (.ptr (.l dst) (e.g + 1) 0), cellWrs (.l dst) 0 cs ({ k := .r (.l dst), v := sizeV cs.length } :: ws))
def splice {α : Type} (l : List α) (off : Nat) (cs : List α) : List α := l.take off ++ cs ++ l.drop (off + cs.length)
def evParts (ws : List Wr) : List C → List (Nat × Nat × X) → Q (List C × List Wr)
  | cells, [] => pure (cells, ws)
  | cells, (off, n, x) :: rest => do
    let (v, ws) ← tk ws x
    let (cs, ws) ← stL ws v.cells
    Q.guard (cs.length == n && decide (off + n ≤ cells.length))
    evParts ws (splice cells off cs) rest
def dataL : List C → Option (List D)
  | [] => some []
  | .d x :: t => (dataL t).map (x :: ·)
  | _ :: _ => none
def evRows (sz : Nat) (ws : List Wr) : List (List D) → List (Nat × X) → Q (List (List D) × List Wr)
  | rows, [] => pure (rows, ws)
  | rows, (i, x) :: rest => do
    let (v, ws) ← tk ws x
    let (cs, ws) ← stL ws v.cells
    let row ← Q.ofO (dataL cs)
    Q.guard (row.length == sz && decide (i < rows.length))
    evRows sz ws (rows.set i row) rest
def D.strB : List UInt8 → List (List D) := fun s => s.map fun b => [.int .u8 b.toNat]
def toBytes : List (List D) → Option (List UInt8)
  | [] => some []
  | [.int .u8 n] :: t => (toBytes t).map (UInt8.ofNat n.toNat :: ·)
  | _ :: _ => none
def mgetB : List (List D) → List UInt8 → Bool
  | [.str k, .bool b] :: t, s => bif s == k then b else mgetB t s
  | _, _ => false
def mputB : List (List D) → List UInt8 → Bool → List (List D)
  | [.str k, .bool b] :: t, s, v => bif s == k then [.str s, .bool v] :: t else [.str k, .bool b] :: mputB t s v
  | _, s, v => [[.str s, .bool v]]
def bytesLess : List UInt8 → List UInt8 → Bool
  | _, [] => false
  | [], _ :: _ => true
  | a :: x, b :: y => a < b || (a == b && bytesLess x y)
def strOp (op : BinOp) (x y : List UInt8) : Option D :=
  match op with
  | .add => if x.length + y.length ≤ 9223372036854775807 then some (.str (x ++ y)) else none
  | .eql => some (.bool (x == y))
  | .neq => some (.bool (!(x == y)))
  | .lss => some (.bool (bytesLess x y))
  | .leq => some (.bool (bytesLess x y || x == y))
  | .gtr => some (.bool (!(bytesLess x y || x == y)))
  | .geq => some (.bool (!bytesLess x y))
  | _ => none
def intOp (op : BinOp) (k : IntKind) (x y : Int) : Option D :=
  match op with
  | .add => some (.int k (k.wrap (x + y)))
  | .sub => some (.int k (k.wrap (x - y)))
  | .mul => some (.int k (k.wrap (x * y)))
  | .quo => if y = 0 then none else some (.int k (k.wrap (x.tdiv y)))
  | .rem => if y = 0 then none else some (.int k (x.tmod y))
  | .and => some (.int k (k.wrap (BitVec.ofInt k.bits x &&& BitVec.ofInt k.bits y).toNat))
  | .or => some (.int k (k.wrap (BitVec.ofInt k.bits x ||| BitVec.ofInt k.bits y).toNat))
  | .xor => some (.int k (k.wrap (BitVec.ofInt k.bits x ^^^ BitVec.ofInt k.bits y).toNat))
  | .andNot => some (.int k (k.wrap (BitVec.ofInt k.bits x &&& ~~~(BitVec.ofInt k.bits y)).toNat))
  | .eql => some (.bool (x == y))
  | .neq => some (.bool (x != y))
  | .lss => some (.bool (decide (x < y)))
  | .leq => some (.bool (decide (x ≤ y)))
  | .gtr => some (.bool (decide (x > y)))
  | .geq => some (.bool (decide (x ≥ y)))
  | _ => none
def shiftOp (op : BinOp) (k : IntKind) (x y : Int) : Option D :=
  if y < 0 then none else
  match op with
  | .shl => some (.int k (k.wrap (x * 2 ^ (Min.min y.toNat k.bits))))
  | .shr => some (.int k (x.fdiv (2 ^ (Min.min y.toNat k.bits))))
  | _ => none
def eqFlat : List Fl → List C → List C → Option Bool
  | [], [], [] => some true
  | .int :: r, .d (.int k x) :: s, .d (.int k' y) :: t => if k = k' then (eqFlat r s t).map (x == y && ·) else none
  | .bool :: r, .d (.bool x) :: s, .d (.bool y) :: t => (eqFlat r s t).map (x == y && ·)
  | .str :: r, .d (.str x) :: s, .d (.str y) :: t => (eqFlat r s t).map (x == y && ·)
  | _, _, _ => none
def isNilC : TC → C → Option Bool
  | .ptr, .nilp => some true
  | .ptr, .ptr .. => some false
  | .func, .nilf => some true
  | .func, .fn n _ _ => match isFn n with | true => some false | false => none
  | .iface, .nili => some true
  | .iface, .ifc => some false
  | .slice, .d (.sl (.im b) _ _) => some b
  | .slice, .view .. => some false
  | _, _ => none
def binV (tc : TC) (op : BinOp) (x y : V) : Option D :=
  match x, y with
  | .one (.d (.int k a)), .one (.d (.int k' b)) =>
    match op with
    | .shl => shiftOp .shl k a b
    | .shr => shiftOp .shr k a b
    | _ => if k = k' then intOp op k a b else none
  | .one (.d (.str a)), .one (.d (.str b)) => strOp op a b
  | .one (.d (.bool a)), .one (.d (.bool b)) =>
    match tc, op with
    | .bool, .eql => some (.bool (a == b))
    | .bool, .neq => some (.bool (!(a == b)))
    | _, _ => none
  | .agg a, .agg b =>
    match tc, op with
    | .struct fs, .eql => (eqFlat fs a b).map .bool
    | .struct fs, .neq => (eqFlat fs a b).map fun r => .bool (!r)
    | _, _ => none
  | .one a, .one b =>
    if isNilC tc b = some true then
      match op with
      | .eql => (isNilC tc a).map .bool
      | .neq => (isNilC tc a).map fun r => .bool (!r)
      | _ => none
    else none
  | _, _ => none
def unV (op : UnOp) (x : V) : Option D :=
  match op, x with
  | .not, .one (.d (.bool b)) => some (.bool (!b))
  | .neg, .one (.d (.int k n)) => some (.int k (k.wrap (0 - n)))
  | .xor, .one (.d (.int k n)) => some (.int k (k.wrap (BitVec.ofInt k.bits (if k.signed then -1 else k.max) ^^^ BitVec.ofInt k.bits n).toNat))
  | _, _ => none
def asNat : V → Option Nat
  | .one (.d (.int _ n)) => if 0 ≤ n then some n.toNat else none
  | _ => none
def optNat (x : Option X) (d : Nat) : Q Nat :=
  match x with
  | none => pure d
  | some x => do let v ← rd x; Q.ofO (asNat v)
def shown : V → Q (List (List D))
  | .one (.d (.sl .own _ _)) => Q.no
  | .one (.d (.sl _ _ rows)) => pure rows
  | .one (.view pl g sz off len) => do
    let (_, _, rows) ← ownAt [] pl g sz
    Q.guard (decide (off + len ≤ rows.length))
    pure (plainRs ((rows.drop off).take len))
  | _ => Q.no
def shownA : X → Q (List (List D))
  | .s i => do
    let e ← Q.at_ (.s i)
    match e.v with
    | .one (.appd pl g a _ rows) => do
      let ep ← Q.at_ pl.k
      let ea ← Q.at_ (.a pl.k)
      Q.guard (ep.g == g && ea.g == a)
      pure rows
    | _ => Q.no
  | _ => Q.no
def rowsOf (sz : Nat) (ws : List Wr) (v : V) : Q (List (List D) × List Wr) :=
  match v with
  | .one c => do
    let (c', ws) ← st ws c
    match c' with
    | .d (.sl _ sz' rows) => do Q.guard (sz' == sz || rows.isEmpty); pure (rows, ws)
    | _ => Q.no
  | _ => Q.no
def appTo (sz bytes : Nat) (v : V) (ws : List Wr) (src : List (List D)) : Q (V × List Wr) :=
  match v with
  | .one (.d (.sl .own sz' rows)) => do
    Q.guard (u8ok bytes src rows.isEmpty && (sz' == sz && decide ((rows.length + src.length) * bytes ≤ 140737488355328)))
    pure (.one (.d (.sl .own sz (rows ++ src))), ws)
  | .one (.d (.sl (.im b) sz' _)) => do
    Q.guard (u8ok bytes src false && (b && sz' == sz && decide (src.length * bytes ≤ 140737488355328)))
    pure (.one (.d (.sl (if src.isEmpty then .im true else .own) sz src)), ws)
  | .one (.view pl g sz' off len) => do
    let (_, _, rows) ← ownAt ws pl g sz
    Q.guard (u8ok bytes src rows.isEmpty && sz' == sz && off == 0 && len == rows.length && fresh ws pl.k && decide ((rows.length + src.length) * bytes ≤ 140737488355328))
    let ea ← Q.at_ (.a pl.k)
    pure (.one (.appd pl g (ea.g + 1) sz (rows ++ src)), { k := .a pl.k, v := V.dead } :: ws)
  | .one (.appd pl g a sz' rows) => do
    let (_, _, old) ← ownAt ws pl g sz
    let ea ← Q.at_ (.a pl.k)
    Q.guard (u8ok bytes src rows.isEmpty && sz' == sz && decide (old.length ≤ rows.length) && ea.g == a && fresh ws pl.k && decide ((rows.length + src.length) * bytes ≤ 140737488355328))
    pure (.one (.appd pl g (ea.g + 1) sz (rows ++ src)), { k := .a pl.k, v := V.dead } :: ws)
  | _ => Q.no
def movTo (dst : Nat) (v : V) (ws : List Wr) : Q (V × List Wr) :=
  match v with
  | .one (.appd pl g a sz rows) => do
    let (c, ws) ← settle ws pl g a sz rows
    pure (.one c, ws)
  | .one (.view pl g sz off len) =>
    if pl.k = .s dst then do
      let (c, ws) ← st ws (.view pl g sz off len)
      pure (.one c, ws)
    else pure (v, ws)
  | _ => pure (v, ws)
def fitRow (P : Place) (i : Nat) (ws : List Wr) : Nat → List C → Q (List D × List Wr)
  | _, [] => pure ([], ws)
  | c, y :: t => do
    let (y', ws) ← stAt ws (P.sub i c) y
    match y' with
    | .d z => do
      let (zs, ws) ← fitRow P i ws (c + 1) t
      pure (z :: zs, ws)
    | _ => Q.no
def elWrs (v : V) (pl : Place) (i : Nat) : Nat → List D → D → List Wr → Option (List Wr)
  | _, [], _, ws => some ws
  | c, z :: t, x, ws =>
    match navD x (pl.p ++ [(i, c)]) with
    | none => none
    | some old =>
      if u8st z old = true then
      elWrs (v.setCell pl.j (.d (setD x (pl.p ++ [(i, c)]) z))) pl i (c + 1) t (setD x (pl.p ++ [(i, c)]) z)
        ({ k := pl.k, v := v.setCell pl.j (.d (setD x (pl.p ++ [(i, c)]) z)), keep := old.flat && z.flat } :: { k := .a pl.k, v := V.dead } :: ws)
      else none
def putCell (mv : Bool) (ws : List Wr) (P : Place) (y : C) : Q (C × List Wr) := if mv then stMv ws P y else stAt ws P y
def putCells (mv : Bool) (r : Root) (ws : List Wr) : Nat → List C → Q (List C × List Wr)
  | _, [] => pure ([], ws)
  | c, y :: t => do
    let (y', ws) ← putCell mv ws ⟨.b r c, 0, []⟩ y
    let (ys, ws) ← putCells mv r ws (c + 1) t
    pure (y' :: ys, ws)
end
section
abbrev Oracle := Nat → List V → List (List C) → Option (V × List (List C))
mutual
def C.ptrs : C → List (Root × Nat)
  | .ptr r g _ => [(r, g)]
  | .fn _ a b => ptrsL a ++ ptrsL b
  | _ => []
def ptrsL : List C → List (Root × Nat)
  | [] => []
  | c :: t => c.ptrs ++ ptrsL t
end
def addPtrs : List Root → List (Root × Nat) → List Root
  | rs, [] => rs
  | rs, (r, _) :: t => if rs.contains r then addPtrs rs t else addPtrs (rs ++ [r]) t
def liveAll (ws : List Wr) : List (Root × Nat) → Q Unit
  | [] => pure ()
  | (r, g) :: t => do
    let e ← Q.at_ (.r r)
    Q.guard (e.g == g && (getWr ws (.r r)).isNone && !r.isG)
    liveAll ws t
def rawCells (ws : List Wr) (r : Root) : Nat → Nat → Q (List C)
  | _, 0 => pure []
  | c, n + 1 => do
    let e ← atP ws (.b r c)
    match e.v with
    | .one x => do
      let t ← rawCells ws r (c + 1) n
      pure (x :: t)
    | _ => Q.no
def gather (ws : List Wr) : Nat → List Root → Nat → Q (List Root × List (List C))
  | 0, rs, i => if rs.length ≤ i then pure (rs, []) else Q.no
  | f + 1, rs, i =>
    match rs[i]? with
    | none => pure (rs, [])
    | some r => do
      let er ← Q.at_ (.r r)
      let cs ← rawCells ws r 0 (boxN er.v)
      liveAll ws (ptrsL cs)
      let (rs', bs) ← gather ws f (addPtrs rs (ptrsL cs)) (i + 1)
      pure (rs', cs :: bs)
def rootIdx (rs : List Root) (r : Root) (i : Nat) : Option Nat :=
  match rs with
  | [] => none
  | x :: t => if x = r then some i else rootIdx t r (i + 1)
mutual
def C.inC (rs : List Root) : C → Option C
  | .d x => some (.d x)
  | .ptr r _ c => (rootIdx rs r 0).map fun i => .ptr (.e i) 0 c
  | .pp cells => some (.pp cells)
  | .fn f a b => (inL rs a).bind fun a' => (inL rs b).map fun b' => .fn f a' b'
  | .nilp => some .nilp
  | .nilf => some .nilf
  | .nili => some .nili
  | .ifc => some .ifc
  | .bld t => some (.bld t)
  | .dead => some .dead
  | _ => none
def inL (rs : List Root) : List C → Option (List C)
  | [] => some []
  | c :: t => (c.inC rs).bind fun c' => (inL rs t).map (c' :: ·)
end
def V.inV (rs : List Root) : V → Option V
  | .one c => (c.inC rs).map .one
  | .agg cs => (inL rs cs).map .agg
  | .tup _ => none
def inVs (rs : List Root) : List V → Option (List V)
  | [] => some []
  | v :: t => (v.inV rs).bind fun v' => (inVs rs t).map (v' :: ·)
def inBs (rs : List Root) : List (List C) → Option (List (List C))
  | [] => some []
  | v :: t => (inL rs v).bind fun v' => (inBs rs t).map (v' :: ·)
mutual
def C.outC (rs : List (Root × Nat)) : C → Option C
  | .d x => some (.d x)
  | .ptr (.e i) _ c => (rs[i]?).map fun x => .ptr x.1 x.2 c
  | .ptr _ _ _ => none
  | .pp cells => some (.pp cells)
  | .fn f a b => (outL rs a).bind fun a' => (outL rs b).map fun b' => .fn f a' b'
  | .nilp => some .nilp
  | .nilf => some .nilf
  | .nili => some .nili
  | .ifc => some .ifc
  | .bld t => some (.bld t)
  | .dead => some .dead
  | _ => none
def outL (rs : List (Root × Nat)) : List C → Option (List C)
  | [] => some []
  | c :: t => (c.outC rs).bind fun c' => (outL rs t).map (c' :: ·)
end
mutual
def V.outV (rs : List (Root × Nat)) : V → Option V
  | .one c => (c.outC rs).map .one
  | .agg cs => (outL rs cs).map .agg
  | .tup vs => (outVs rs vs).map .tup
def outVs (rs : List (Root × Nat)) : List V → Option (List V)
  | [] => some []
  | v :: t => (v.outV rs).bind fun v' => (outVs rs t).map (v' :: ·)
end
def outBs (rs : List (Root × Nat)) : List (List C) → Option (List (List C))
  | [] => some []
  | v :: t => (outL rs v).bind fun v' => (outBs rs t).map (v' :: ·)
def gensOf : List Root → Q (List (Root × Nat))
  | [] => pure []
  | x :: t => do
    let e ← Q.at_ (.r x)
    let l ← gensOf t
    pure ((x, e.g) :: l)
def C.same : C → C → Bool
  | .ptr r g c, .ptr r' g' c' => decide (r = r') && g == g' && c == c'
  | _, _ => false
def newWrs (r : Root) : Nat → List C → List C → List Wr → List Wr
  | c, x :: t, y :: u, ws => newWrs r (c + 1) t u (if y.same x then ws else { k := .b r c, v := .one x } :: ws)
  | _, _, _, ws => ws
def boxWrs : List Root → List (List C) → List (List C) → List Wr → List Wr
  | x :: rs, cs :: bs, ol :: os, ws => boxWrs rs bs os (newWrs x 0 cs ol ws)
  | _, _, _, ws => ws
def lensEq : List (List C) → List (List C) → Bool
  | [], [] => true
  | x :: t, y :: u => x.length == y.length && lensEq t u
  | _, _ => false
def rdArgs (ws : List Wr) : List (Bool × X) → Q (List V × List Wr)
  | [] => pure ([], ws)
  | (_, x) :: t => do
    let (v, ws) ← tk ws x
    match v with
    | .one c => do
      let (c', ws) ← st ws c
      let (vs, ws) ← rdArgs ws t
      pure (.one c'.plain :: vs, ws)
    | .agg cs => do
      let (cs', ws) ← stL ws cs
      let (vs, ws) ← rdArgs ws t
      pure (.agg (cs'.map C.plain) :: vs, ws)
    | .tup _ => Q.no
def vPtrs : List V → List (Root × Nat)
  | [] => []
  | v :: t => ptrsL v.cells ++ vPtrs t
def callF (Cl : Oracle) (dst : Nat) (f : Nat) (vs : List V) (ws : List Wr) : Q (V × List Wr) := do
  liveAll ws (vPtrs vs)
  let (rs, bs) ← gather ws 40 (addPtrs [] (vPtrs vs)) 0
  let vs' ← Q.ofO (inVs rs vs)
  let bs' ← Q.ofO (inBs rs bs)
  let (r, out) ← Q.ofO (Cl f vs' bs')
  if rs.isEmpty && r.flat && out.isEmpty then pure (r, [])
  else do
    let gs ← gensOf rs
    if out.length = rs.length then do
      let r' ← Q.ofO (r.outV gs)
      let bs2 ← Q.ofO (outBs gs out)
      Q.guard (lensEq bs2 bs)
      pure (r', boxWrs rs bs2 bs ws)
    else do
      let e ← atP ws (.r (.l dst))
      let gs' := gs ++ [(.l dst, e.g + 1)]
      let r' ← Q.ofO (r.outV gs')
      let bs2 ← Q.ofO (outBs gs' out)
      let nb := bs2.getD rs.length []
      Q.guard (out.length == rs.length + 1 && lensEq (bs2.take rs.length) bs && (boxN e.v == 0 || boxN e.v == nb.length) && !rs.contains (.l dst))
      pure (r', cellWrs (.l dst) 0 nb ({ k := .r (.l dst), v := sizeV nb.length } :: boxWrs rs bs2 bs ws))
def fnCells (ws : List Wr) : List X → Q (List C × List Wr)
  | [] => pure ([], ws)
  | x :: t => do
    let v ← rd x
    match v with
    | .one c => do
      let (c', ws) ← st ws c
      let (r, ws) ← fnCells ws t
      pure (c' :: r, ws)
    | _ => Q.no
def Tag.emptied : Tag → Tag
  | .im b => bif b then .im true else .own
  | .own => .own
def evOp (Cl : Oracle) (dst : Nat) : IOp → Q (V × List Wr)
  | .mov x => do let (v, ws) ← tk [] x; movTo dst v ws
  | .nilck x => do
    let v ← rd x
    match v with
    | .one (.ptr ..) => pure (v, [])
    | .one (.eptr ..) => pure (v, [])
    | .one (.pp _) => pure (v, [])
    | .one (.fn n _ _) => do
      Q.guard (isFn n)
      pure (v, [])
    | _ => Q.no
  | .pick c a b => do
    let v ← rd c
    match v with
    | .one (.d (.bool true)) => do let r ← rd a; pure (r, [])
    | .one (.d (.bool false)) => do let r ← rd b; pure (r, [])
    | _ => Q.no
  | .alloc zero => boxed dst zero []
  | .allocB t zero => do
    let (v, ws) ← boxed dst zero []
    pure (v, { k := .b (.l dst) 0, v := .one (.bld t) } :: ws)
  | .box n x => do
    let (v, ws) ← tk [] x
    let (cs, ws) ← stL ws v.cells
    Q.guard (cs.length == n)
    boxed dst cs ws
  | .boxB t n x => do
    let (v, ws) ← tk [] x
    let (cs, ws) ← stL ws v.cells
    Q.guard (cs.length == n)
    match cs with
    | [.nilp, z] => do
      let (r, ws) ← boxed dst [.nilp, z] ws
      pure (r, { k := .b (.l dst) 0, v := .one (.bld t) } :: ws)
    | _ => Q.no
  | .build zero parts => do let (cs, ws) ← evParts [] zero parts; pure (.agg cs, ws)
  | .fslice parts => do
    let (cs, ws) ← fnCells [] parts
    Q.guard (cs.all C.isF)
    pure (.one (.fn fnsTag [] cs), ws)
  | .bslice sz rows parts => do
    let (rs, ws) ← evRows sz [] rows parts
    Q.guard ((noU8 rs || !(noU8 rows)) && !rs.isEmpty)
    pure (.one (.d (.sl .own sz rs)), ws)
  | .load n agg x => do
    let v ← rd x
    match v with
    | .one (.ptr r g c) => do
      let e ← Q.at_ (.r r)
      Q.guard (!r.isG && e.g == g && decide (c + n ≤ boxN e.v))
      let cs ← readCells r c n
      let r' ← mkV agg cs
      pure (r', [])
    | .one (.pp cells) => do
      Q.guard (decide (n ≤ cells.length))
      let r' ← mkV agg ((cells.take n).map .d)
      pure (r', [])
    | .one (.eptr pl g sz i c) => do
      let (_, _, rows) ← ownAt [] pl g sz
      let row ← Q.ofO rows[i]?
      Q.guard (decide (c + n ≤ row.length))
      let r' ← mkV agg (lookRow pl g i c ((row.drop c).take n))
      pure (r', [])
    | .one (.fn t f l) => do
      let l ← Q.ofO (fnsOf (fnsTag + 1) (.fn t f l))
      Q.guard (l.length == n)
      let r' ← mkV agg l
      pure (r', [])
    | _ => Q.no
  | .store mv n x v => do
    let p ← rd x
    let (vv, ws) ← tk [] v
    Q.guard (vv.cells.length == n)
    match p with
    | .one (.ptr r g c) => do
      let (cs, ws) ← putCells mv r ws c vv.cells
      let e ← atP ws (.r r)
      Q.guard (!r.isG && e.g == g && decide (c + n ≤ boxN e.v))
      pure (.tup [], cellWrs r c cs ws)
    | .one (.eptr pl g sz i c) => do
      let (zs, ws) ← fitRow pl i ws c vv.cells
      let (e, x0, rows) ← ownAt ws pl g sz
      let row ← Q.ofO rows[i]?
      Q.guard (decide (c + n ≤ row.length))
      let ws ← Q.ofO (elWrs e.v pl i c zs x0 ws)
      pure (.tup [], ws)
    | _ => Q.no
  | .bin tc op x y => do
    let a ← rd x
    let b ← rd y
    let r ← Q.ofO (binV tc op a b)
    pure (.one (.d r), [])
  | .un op x => do
    let a ← rd x
    let r ← Q.ofO (unV op a)
    pure (.one (.d r), [])
  | .conv c x => do
    let a ← rd x
    match c, a with
    | .int k, .one (.d (.int _ n)) => pure (.one (.d (.int k (k.wrap n))), [])
    | .same, .one (.d (.str s)) => pure (.one (.d (.str s)), [])
    | .strBytes, .one (.d (.str s)) => do
      Q.guard (decide (s.length ≤ 140737488355328))
      pure (.one (.d (.sl .own 1 (D.strB s))), [])
    | .bytesStr, .one .dead => do
      let rows ← shownA x
      let s ← Q.ofO (toBytes rows)
      pure (.one (.d (.str s)), [])
    | .bytesStr, a => do
      let rows ← shown a
      let s ← Q.ofO (toBytes rows)
      pure (.one (.d (.str s)), [])
    | _, _ => Q.no
  | .mkfn f first cap => do
    let (a, ws) ← fnCells [] first
    let (b, ws) ← fnCells ws cap
    pure (.one (.fn f a b), ws)
  | .mkslice sz bytes zero l c => do
    let n ← rd l
    let m ← rd c
    let n ← Q.ofO (asNat n)
    let m ← Q.ofO (asNat m)
    Q.guard (decide (n ≤ m) && decide (m * bytes ≤ 140737488355328) && decide (m ≤ 9223372036854775807) && zero.length == sz && (bytes == 1 || (!(u8Row zero) && (!(n == 0) || m == 0))))
    pure (.one (.d (.sl .own sz (List.replicate n zero))), [])
  | .sliceS x lo hi => do
    let v ← rd x
    match v with
    | .one (.d (.str s)) => do
      let l ← optNat lo 0
      let h ← optNat hi s.length
      Q.guard (decide (l ≤ h) && decide (h ≤ s.length))
      pure (.one (.d (.str ((s.drop l).take (h - l)))), [])
    | _ => Q.no
  | .slice sz0 x lo hi mx => do
    let v ← rd x
    match v with
    | .one (.d (.sl .own _ _)) => Q.no
    | .one (.d (.sl t sz rows)) => do
      let l ← optNat lo 0
      let h ← optNat hi rows.length
      Q.guard ((sz == sz0 || rows.isEmpty) && decide (l ≤ h) && decide (h ≤ rows.length))
      match mx with
      | none => pure (.one (.d (.sl t sz ((rows.drop l).take (h - l)))), [])
      | some x => do
        let vm ← rd x
        let m ← Q.ofO (asNat vm)
        Q.guard (m == 0 && l == 0 && h == 0)
        pure (.one (.d (.sl t.emptied sz [])), [])
    | .one (.view pl g sz off len) => do
      let l ← optNat lo 0
      let h ← optNat hi len
      Q.guard (sz == sz0 && decide (l ≤ h) && decide (h ≤ len) && mx.isNone && (decide (0 < h) || len == 0))
      pure (.one (.view pl g sz (off + l) (h - l)), [])
    | _ => Q.no
  | .fieldA off x => do
    let v ← rd x
    match v with
    | .one (.ptr r g c) => pure (.one (.ptr r g (c + off)), [])
    | .one (.pp cells) => pure (.one (.pp (cells.drop off)), [])
    | .one (.eptr pl g sz i c) => pure (.one (.eptr pl g sz i (c + off)), [])
    | _ => Q.no
  | .field off n agg x => do
    let v ← rd x
    match v with
    | .agg cs => do
      Q.guard (decide (off + n ≤ cs.length))
      let r ← mkV agg ((cs.drop off).take n)
      pure (r, [])
    | _ => Q.no
  | .indexA sz x i => do
    let v ← rd x
    let vi ← rd i
    let i ← Q.ofO (asNat vi)
    match v with
    | .one (.d (.sl .own _ _)) => Q.no
    | .one (.d (.sl _ sz' rows)) => do
      Q.guard (sz' == sz)
      let row ← Q.ofO rows[i]?
      pure (.one (.pp row), [])
    | .one (.view pl g sz' off len) => do
      Q.guard (sz' == sz && decide (i < len))
      pure (.one (.eptr pl g sz (off + i) 0), [])
    | .one (.fn t f l) => do
      let l ← Q.ofO (fnsOf fnsTag (.fn t f l))
      Q.guard (sz == 1)
      let c ← Q.ofO l[i]?
      pure (.one (.fn (fnsTag + 1) [] [c]), [])
    | _ => Q.no
  | .indexR n sz x i => do
    let v ← rd x
    let vi ← rd i
    let i ← Q.ofO (asNat vi)
    Q.guard (decide (i < n))
    match v with
    | .one (.ptr r g c) => pure (.one (.ptr r g (c + i * sz)), [])
    | _ => Q.no
  | .index x i => do
    let v ← rd x
    let vi ← rd i
    let i ← Q.ofO (asNat vi)
    match v with
    | .one (.d (.str s)) => do
      let b ← Q.ofO s[i]?
      pure (.one (.d (.int .u8 b.toNat)), [])
    | _ => Q.no
  | .extract j x => do
    let v ← rd x
    match v with
    | .tup vs => do let r ← Q.ofO vs[j]?; pure (r, [])
    | _ => Q.no
  | .len true x => do
    let v ← rd x
    match v with
    | .one (.d (.str s)) => pure (.one (.d (.int .i64 s.length)), [])
    | _ => Q.no
  | .len false x => do
    let v ← rd x
    match v with
    | .one (.d (.sl _ _ rows)) => pure (.one (.d (.int .i64 rows.length)), [])
    | .one (.view _ _ _ _ len) => pure (.one (.d (.int .i64 len)), [])
    | .one (.fn t f l) => do
      let l ← Q.ofO (fnsOf fnsTag (.fn t f l))
      pure (.one (.d (.int .i64 l.length)), [])
    | _ => Q.no
  | .app sz bytes x y => do
    let (a, ws) ← tk [] y
    let (src, ws) ← rowsOf sz ws a
    let (v, ws) ← tk ws x
    appTo sz bytes v ws src
  | .appS x y => do
    let a ← rd y
    match a with
    | .one (.d (.str s)) => do
      let (v, ws) ← tk [] x
      appTo 1 1 v ws (D.strB s)
    | _ => Q.no
  | .min x y => do
    let a ← rd x
    let b ← rd y
    match a, b with
    | .one (.d (.int k m)), .one (.d (.int _ n)) => pure (.one (.d (.int k (if n < m then n else m))), [])
    | _, _ => Q.no
  | .max x y => do
    let a ← rd x
    let b ← rd y
    match a, b with
    | .one (.d (.int k m)), .one (.d (.int _ n)) => pure (.one (.d (.int k (if n > m then n else m))), [])
    | _, _ => Q.no
  | .call f args => do
    let vf ← rd f
    match vf with
    | .one (.fn n first cap) => do
      Q.guard (isFn n)
      let (vs, ws) ← rdArgs [] args
      callF Cl dst n (first.map .one ++ vs ++ cap.map .one) ws
    | _ => Q.no
  | .mkif _ => pure (.one .ifc, [])
  | .sdata x => do
    let v ← rd x
    match v with
    | .one (.view pl g sz off len) => do
      Q.guard (!(len == 0) && off == 0)
      pure (.one (.eptr pl g sz 0 0), [])
    | _ => Q.no
  | .ustr x n => do
    let v ← rd x
    let vn ← rd n
    let n ← Q.ofO (asNat vn)
    match v with
    | .one (.eptr pl g sz i c) => do
      let (e, x0, rows) ← ownAt [] pl g sz
      Q.guard (sz == 1 && i == 0 && c == 0 && n == rows.length && !(n == 0) && decide (n ≤ 140737488355328))
      let s ← Q.ofO (toBytes rows)
      pure (.one (.d (.str s)), setWr [] pl.k (killAt e.v pl x0))
    | _ => Q.no
  | .mkmap => do
    let e ← Q.at_ (.b (.g dst) 0)
    let n ← Q.at_ (.r (.g dst))
    Q.guard (decide (boxN n.v ≤ 1))
    pure (.one (.mref dst (e.g + 1)), [{ k := .b (.g dst) 0, v := .one (.mp (.sl (.im false) 2 [])) }, { k := .r (.g dst), v := sizeV 1 }])
  | .mget m k => do
    let v ← rd m
    let s ← rd k
    match v, s with
    | .one (.mref i g), .one (.d (.str s)) => do
      let e ← Q.at_ (.b (.g i) 0)
      match e.v with
      | .one (.mp (.sl _ _ rows)) => do
        Q.guard (e.g == g)
        pure (.one (.d (.bool (mgetB rows s))), [])
      | _ => Q.no
    | _, _ => Q.no
  | .mset m k x => do
    let v ← rd m
    let s ← rd k
    let b ← rd x
    match v, s, b with
    | .one (.mref i g), .one (.d (.str s)), .one (.d (.bool b)) => do
      let e ← Q.at_ (.b (.g i) 0)
      match e.v with
      | .one (.mp (.sl _ _ rows)) => do
        Q.guard (e.g == g)
        pure (.tup [], [{ k := .b (.g i) 0, v := .one (.mp (.sl (.im false) 2 (mputB rows s b))), keep := true }, { k := .a (.b (.g i) 0), v := V.dead }])
      | _ => Q.no
    | _, _, _ => Q.no
  | .bad => Q.no
end
section
structure IOper where
  dst : Option Nat
  op : IOp
  guard : Option (Nat × Bool)
  deriving Inhabited
inductive ICode where
  | skip
  | reg (keep : Option (List Nat)) (gc : Bool) (ops : List IOper) (draw : Option (List (Nat × Nat)))
  | seq (a b : ICode)
  | cond (c : X) (a b : ICode)
  | block (id : Nat) (body : ICode)
  | loop (body : ICode)
  | exit (id : Nat)
  | ret
  deriving Inhabited
inductive RV where
  | slot (t : Nat)
  | cell (t n : Nat) (agg : Bool)
  deriving Inhabited
structure IFunc where
  nslots : Nat
  results : List RV
  body : ICode
  forget : Bool
  deriving Inhabited
inductive IExit where | norm | exit (id : Nat) | ret
  deriving DecidableEq, Inhabited
def guardQ : Option (Nat × Bool) → Q Bool
  | none => pure true
  | some (t, b) => do
    let e ← Q.at_ (.s t)
    match e.v with
    | .one (.d (.bool x)) => pure (x == b)
    | .tup [] => pure false
    | _ => Q.no
def evOper (Cl : Oracle) (o : IOper) : Q (List Wr) := do
  let want ← guardQ o.guard
  if want then do
    let (v, ws) ← evOp Cl (o.dst.getD 0) o.op
    match o.dst with
    | some d => pure ({ k := .s d, v } :: ws)
    | none => pure ws
  else
    match o.dst with
    | some d => pure [{ k := .s d, v := .tup [] }]
    | none => pure []
def evOps (Cl : Oracle) : List IOper → St → Option St
  | [], S => some S
  | o :: t, S => ((evOper Cl o).run S).bind fun ws => evOps Cl t (S.wrs ws)
structure Foot where
  r : List Key
  w : List Key
def evOpsF (Cl : Oracle) : List IOper → St → Option (St × List Foot)
  | [], S => some (S, [])
  | o :: t, S => ((evOper Cl o).run S).bind fun ws =>
    (evOpsF Cl t (S.wrs ws)).map fun x => (x.1, ⟨(evOper Cl o).reads S, ws.map (·.k)⟩ :: x.2)
def Foot.apart (x y : Foot) : Bool :=
  x.w.all (fun k => !y.r.contains k && !y.w.contains k) && y.w.all (fun k => !x.r.contains k)
def pairsOk (fs : List Foot) (ps : List (Nat × Nat)) : Bool :=
  ps.all fun (i, j) => match fs[i]?, fs[j]? with
    | some x, some y => x.apart y
    | _, _ => false
mutual
def C.refs : C → List Key
  | .view pl .. => [pl.k]
  | .eptr pl .. => [pl.k]
  | .appd pl .. => [pl.k, .a pl.k]
  | .mref i _ => [.b (.g i) 0]
  | .fn _ a b => refsL a ++ refsL b
  | _ => []
def refsL : List C → List Key
  | [] => []
  | c :: t => c.refs ++ refsL t
end
mutual
def V.refs : V → List Key
  | .one c => c.refs
  | .agg cs => refsL cs
  | .tup vs => refsVs vs
def refsVs : List V → List Key
  | [] => []
  | v :: t => v.refs ++ refsVs t
end
def kept (keep : List Nat) : Key → Bool
  | .s i => keep.contains i
  | .h _ => false
  | _ => true
def allRefs : St → List Key
  | [] => []
  | (_, e) :: t => e.v.refs ++ allRefs t
def resetG (refs : List Key) (k : Key) (g : Nat) : Nat := if refs.contains k then g else match k with | .r _ => g | _ => 0
def reset (refs : List Key) : St → St
  | [] => []
  | (k, e) :: t => (k, { e with g := resetG refs k e.g }) :: reset refs t
def isDef : Ent → Bool
  | ⟨.one .dead, g⟩ => Nat.beq g 0
  | _ => false
def defA (S : St) : Key → Bool
  | .a k => isDef (S.get (.a k))
  | _ => false
def dropA (S : St) : St := S.filter fun x => !defA S x.1
def St.norm0 (keep : List Nat) (S : St) : Option St :=
  let S' := S.filter fun x => kept keep x.1
  if (allRefs S').all (kept keep) then some (dropA (reset (allRefs S') S')) else none
def slotsIn : List Key → List Nat
  | [] => []
  | .s i :: t => i :: slotsIn t
  | _ :: t => slotsIn t
def St.looked (keep : List Nat) (S : St) : List Nat := keep ++ slotsIn (allRefs (S.filter fun x => kept keep x.1))
def St.norm (keep : List Nat) (S : St) : Option St := S.norm0 (S.looked (S.looked keep))
def Key.root? : Key → Option Root
  | .b x _ => some x
  | .r x => some x
  | _ => none
mutual
def C.rootsC : C → List Root
  | .ptr r .. => [r]
  | .eptr pl .. => pl.k.root?.toList
  | .view pl .. => pl.k.root?.toList
  | .appd pl .. => pl.k.root?.toList
  | .mref i _ => [.g i]
  | .fn _ a b => rootsL a ++ rootsL b
  | _ => []
def rootsL : List C → List Root
  | [] => []
  | c :: t => c.rootsC ++ rootsL t
end
mutual
def V.roots : V → List Root
  | .one c => c.rootsC
  | .agg cs => rootsL cs
  | .tup vs => rootsVs vs
def rootsVs : List V → List Root
  | [] => []
  | v :: t => v.roots ++ rootsVs t
end
def Key.isSlot : Key → Bool
  | .s _ => true
  | _ => false
def slotRoots : St → List Root
  | [] => []
  | (k, e) :: t => (if k.isSlot then e.v.roots else []) ++ slotRoots t
def boxRoots (live : List Root) : St → List Root
  | [] => []
  | (k, e) :: t => (match k with | .b r _ => if live.contains r then e.v.roots else [] | _ => []) ++ boxRoots live t
def growRoots (S : St) : Nat → List Root → List Root
  | 0, l => l
  | n + 1, l => growRoots S n (l ++ (boxRoots l S).filter fun r => !l.contains r)
def Root.ext : Root → Bool
  | .l _ => false
  | _ => true
def C.loosen (c : C) : C := c
def V.loosen : V → V
  | .one c => .one c.loosen
  | v => v
def loosenAll : St → St
  | [] => []
  | (k, e) :: t => (k, { e with v := e.v.loosen }) :: loosenAll t
def gcKeep (live : List Root) (k : Key) : Bool := match k.root? with | some r => r.ext || live.contains r | none => true
def St.gc (S : St) : Option St :=
  let live := growRoots S 3 (slotRoots S)
  let S' := S.filter fun x => gcKeep live x.1
  if S'.all fun x => x.2.v.roots.all fun r => r.ext || live.contains r then some (loosenAll S') else none
def evReg (Cl : Oracle) (keep : Option (List Nat)) (gc : Bool) (ops : List IOper) (draw : Option (List (Nat × Nat))) (S : St) : Option St :=
  (match keep with | some l => S.norm l | none => some S).bind fun S1 =>
  (if gc then S1.gc else some S1).bind fun S2 =>
  match draw with
  | none => evOps Cl ops S2
  | some [] => evOps Cl ops S2
  | some ps => (evOpsF Cl ops S2).bind fun x => if pairsOk x.2 ps then some x.1 else none
def iter (f : St → Option (IExit × St)) : Nat → St → Option (IExit × St)
  | 0, _ => none
  | n + 1, S => (f S).bind fun x => match x.1 with
    | .norm => iter f n x.2
    | e => some (e, x.2)
def condV (S : St) (c : X) : Option Bool :=
  ((rd c).run S).bind fun
    | .one (.d (.bool b)) => some b
    | _ => none
def evC (Cl : Oracle) (n : Nat) : ICode → St → Option (IExit × St)
  | .skip, S => some (.norm, S)
  | .reg keep gc ops draw, S => (evReg Cl keep gc ops draw S).map fun S' => (.norm, S')
  | .seq a b, S => (evC Cl n a S).bind fun x => match x.1 with
    | .norm => evC Cl n b x.2
    | e => some (e, x.2)
  | .cond c a b, S => (condV S c).bind fun t => if t then evC Cl n a S else evC Cl n b S
  | .block id b, S => (evC Cl n b S).map fun x => (match x.1 with | .exit i => if i = id then .norm else .exit i | e => e, x.2)
  | .loop b, S => iter (evC Cl n b) n S
  | .exit id, S => some (.exit id, S)
  | .ret, S => some (.ret, S)
def argEnts : Nat → List V → St
  | _, [] => []
  | i, v :: t => (.s i, ⟨v, 0⟩) :: argEnts (i + 1) t
def boxEnts (r : Root) : Nat → List C → St
  | _, [] => []
  | c, x :: t => (.b r c, ⟨.one x, 0⟩) :: boxEnts r (c + 1) t
def boxesEnts : Nat → List (List C) → St
  | _, [] => []
  | i, b :: t => (.r (.e i), ⟨sizeV b.length, 0⟩) :: (boxEnts (.e i) 0 b ++ boxesEnts (i + 1) t)
def rdRes (ws : List Wr) : RV → Q (V × List Wr)
  | .slot t => tk ws (.t t)
  | .cell t n agg => do
    let v ← rd (.s t)
    match v with
    | .one (.ptr r g c) => do
      let e ← Q.at_ (.r r)
      Q.guard (!r.isG && e.g == g && decide (c + n ≤ boxN e.v))
      let cs ← readCells r c n
      let r' ← mkV agg cs
      pure (r', ws)
    | _ => Q.no
def stMvL (ws : List Wr) : List C → Q (List C × List Wr)
  | [] => pure ([], ws)
  | c :: cs => do
    let (c', ws) ← stMv ws ⟨.h 0, 0, []⟩ c
    let (cs', ws) ← stMvL ws cs
    pure (c' :: cs', ws)
def resOne (r : RV) : Q (V × List Wr) := do
  let (v, ws) ← rdRes [] r
  match v with
  | .one c => do let (c', ws) ← stMv ws ⟨.h 0, 0, []⟩ c; pure (.one c', ws)
  | .agg cs => do let (cs', ws) ← stMvL ws cs; pure (.agg cs', ws)
  | .tup _ => Q.no
def resVs (ws : List Wr) : List RV → Q (List V × List Wr)
  | [] => pure ([], ws)
  | r :: t => do
    let (v, ws) ← rdRes ws r
    match v with
    | .one c => do
      let (c', ws) ← st ws c
      let (vs, ws) ← resVs ws t
      pure (.one c'.plain :: vs, ws)
    | .agg cs => do
      let (cs', ws) ← stL ws cs
      let (vs, ws) ← resVs ws t
      pure (.agg (cs'.map C.plain) :: vs, ws)
    | .tup _ => Q.no
def resAll (forget : Bool) : List RV → Q (V × List Wr)
  | [r] => if forget then do
      let (vs, ws) ← resVs [] [r]
      match vs with
      | [v] => pure (v, ws)
      | _ => Q.no
    else resOne r
  | rs => do let (vs, ws) ← resVs [] rs; pure (.tup vs, ws)
def newBox : List (Root × Nat) → Option Root
  | [] => none
  | (.l i, _) :: _ => some (.l i)
  | _ :: t => newBox t
def outBoxes (ws : List Wr) : Nat → List (List C) → Q (List (List C))
  | _, [] => pure []
  | i, b :: t => do
    let e ← atP ws (.r (.e i))
    Q.guard (boxN e.v == b.length)
    let cs ← rawCells ws (.e i) 0 b.length
    let r ← outBoxes ws (i + 1) t
    pure (cs :: r)
def extsOf : Nat → Nat → List Root
  | _, 0 => []
  | i, n + 1 => .e i :: extsOf (i + 1) n
mutual
def V.leave (rs : List Root) : V → Option V
  | .one c => (c.inC rs).map .one
  | .agg cs => (inL rs cs).map .agg
  | .tup vs => (leaveVs rs vs).map .tup
def leaveVs (rs : List Root) : List V → Option (List V)
  | [] => some []
  | v :: t => (v.leave rs).bind fun v' => (leaveVs rs t).map (v' :: ·)
end
def ptrsBs : List (List C) → List (Root × Nat)
  | [] => []
  | b :: t => ptrsL b ++ ptrsBs t
mutual
def V.ptrsV : V → List (Root × Nat)
  | .one c => c.ptrs
  | .agg cs => ptrsL cs
  | .tup vs => ptrsVs vs
def ptrsVs : List V → List (Root × Nat)
  | [] => []
  | v :: t => v.ptrsV ++ ptrsVs t
end
def evRet (fn : IFunc) (bx : List (List C)) : Q (V × List (List C)) := do
  let (v, ws) ← resAll fn.forget fn.results
  let out ← outBoxes ws 0 bx
  match newBox v.ptrsV with
  | none => do
    liveAll ws (v.ptrsV ++ ptrsBs out)
    let v' ← Q.ofO (v.leave (extsOf 0 bx.length))
    let out' ← Q.ofO (inBs (extsOf 0 bx.length) out)
    pure (v', out')
  | some r => do
    let e ← atP ws (.r r)
    let cs ← rawCells ws r 0 (boxN e.v)
    liveAll ws (v.ptrsV ++ ptrsBs (out ++ [cs]))
    let v' ← Q.ofO (v.leave (extsOf 0 bx.length ++ [r]))
    let out' ← Q.ofO (inBs (extsOf 0 bx.length ++ [r]) (out ++ [cs]))
    pure (v', out')
def evBody (Cl : Oracle) (n : Nat) (fn : IFunc) (args : List V) (bx : List (List C)) : Option (V × List (List C)) :=
  if args.length ≤ fn.nslots then
    (evC Cl n fn.body (argEnts 0 args ++ boxesEnts 0 bx)).bind fun x =>
      match x.1 with
      | .exit _ => none
      | _ => (evRet fn bx).run x.2
  else none
def evN (T : Nat → Option IFunc) (prim : Oracle) : Nat → Oracle
  | 0 => fun _ _ _ => none
  | n + 1 => fun f args bx => match T f with
    | some fn => evBody (evN T prim n) n fn args bx
    | none => prim f args bx
end
section
structure Hint where
  nt : Nat
  tmp0 : Nat
  res : List Nat
  lend : List (Nat × List Nat) -- of functions (by name's number) the parameters that they write into
  regs : List (Nat × (Option (List Nat) × Bool))
  deriving Inhabited
def isStrD : Option TypeDesc → Bool
  | some .string => true
  | _ => false
def zeroB (P : Program) (e : TypeId) : Bool :=
  match P.info? e with
  | some i => match i.zero with
    | some (.bool false) => true
    | _ => false
  | none => false
def isBoolD : Option TypeDesc → Bool
  | some .bool => true
  | _ => false
def isU8 : Option TypeDesc → Bool
  | some (.int .u8) => true
  | _ => false
def u8T : TypeId := 5
def byU8 (e : TypeId) (b : Nat) : Nat := if e = u8T then b else if b = 1 then 2 else b
section
variable (P : Program)
def szOf (t : TypeId) : Option Nat := (P.info? t).map (·.size)
def elemSz (t : TypeId) : Option Nat :=
  match P.underlying t with
  | some (.slice e) => szOf P e
  | _ => none
def constC (sz : Nat) : Value → Option C
  | .int k n => some (.d (.int k n))
  | .bool b => some (.d (.bool b))
  | .string s => some (.d (.str s.data.toList))
  | .slice none 0 0 => some (.d (.sl (.im true) sz []))
  | .pointer none => some .nilp
  | .nilFunc => some .nilf
  | .nilIface => some .nili
  | _ => none
def constV (sz : Nat) (v : Value) : Option V := (constC sz v).map .one
def cellSz : Nat → TypeId → Option (List Nat)
  | 0, _ => none
  | n + 1, t =>
    match P.underlying t with
    | some (.struct fs) => fs.toList.foldr (fun f acc => match cellSz n f.type, acc with | some a, some b => some (a ++ b) | _, _ => none) (some [])
    | some (.array k e) => (cellSz n e).map fun l => (List.replicate k l).flatten
    | some (.slice e) => (szOf P e).map fun s => [s]
    | _ => some [0]
def zeroC (t : TypeId) : Option (List C) :=
  match P.info? t, cellSz P 12 t with
  | some i, some l => match i.zero with
    | some z => if z.cells.size = l.length ∧ z.cells.size = i.size then (l.zip z.cells.toList).mapM fun x => constC x.1 x.2 else none
    | none => none
  | _, _ => none
def aggD : TypeDesc → Bool
  | .struct _ => true
  | .array _ _ => true
  | _ => false
def aggOf (t : TypeId) : Option (Nat × Bool) :=
  match P.info? t, P.underlying t with
  | some i, some d => some (i.size, aggD d)
  | _, _ => none
def hasSl : Nat → TypeId → Bool
  | 0, _ => true
  | n + 1, t =>
    match P.underlying t with
    | some (.struct fs) => fs.any fun f => hasSl n f.type
    | some (.array _ e) => hasSl n e
    | some (.slice _) => true
    | _ => false
variable (nm : FuncId → Option Nat) (h : Hint)
def compX (t : TypeId) (x : Operand) : Option X :=
  match x with
  | .tmp i => some (if h.tmp0 ≤ i ∧ hasSl P 12 t = true then .t i else .s i)
  | .const v => (constV ((elemSz P t).getD 0) v).map .c
  | .func f => (nm f).bind fun n => if n < fnsTag then some (.f n) else none
  | .global _ => none
def lookX (t : TypeId) (x : Operand) : Option X :=
  match x with
  | .tmp i => some (.s i)
  | .const v => (constV ((elemSz P t).getD 0) v).map .c
  | .func f => (nm f).bind fun n => if n < fnsTag then some (.f n) else none
  | .global _ => none
def flatField (f : Field) : Option Fl :=
  if f.name = "_" then none else
  match P.underlying f.type with
  | some (.int _) => some .int
  | some .bool => some .bool
  | some .string => some .str
  | _ => none
def flatFields : Nat → List Field → Option (List Fl)
  | _, [] => some []
  | i, f :: t => if f.offset = i then
      match flatField P f, flatFields (i + 1) t with
      | some x, some l => some (x :: l)
      | _, _ => none
    else none
def flatNest (f : Field) : Option (List Fl) :=
  if f.name = "_" then none else
  match P.underlying f.type with
  | some (.struct gs) =>
    match flatFields P 0 gs.toList with
    | some l => if P.stoodInHeld f.type = false ∧ szOf P f.type = some l.length ∧ l.length ≠ 0 then some l else none
    | none => none
  | _ => none
def flatFields2 : Nat → List Field → Option (List Fl)
  | _, [] => some []
  | i, f :: t => if f.offset = i then
      match flatField P f with
      | some x => (flatFields2 (i + 1) t).map (x :: ·)
      | none => match flatNest P f with
        | some l => (flatFields2 (i + l.length) t).map (l ++ ·)
        | none => none
    else none
def flatStruct (t : TypeId) : Option (List Fl) :=
  match P.underlying t with
  | some (.struct fs) => if P.stoodInHeld t = false ∧ P.eqGuardType P.depth t = false then flatFields2 P 0 fs.toList else none
  | _ => none
def isConstO : Operand → Bool
  | .const _ => true
  | _ => false
def classOf (op : BinOp) (t : TypeId) (y : Operand) : Option TC :=
  match op with
  | .eql | .neq =>
    match P.underlying t with
    | some (.int _) => some .other
    | some .string => some .other
    | some .bool => some .bool
    | some (.struct _) => (flatStruct P t).map .struct
    | some (.pointer _) => some .ptr
    | some (.slice _) => some .slice
    | some (.func _ _ _) => some .func
    | some (.interface _) => if isConstO y then some .iface else none
    | _ => none
  | _ => some .other
def isBld (t : TypeId) : Bool :=
  match P.underlying t with
  | some (.struct fs) =>
    match fs.toList with
    | [f, g] =>
      match P.underlying f.type, P.underlying g.type with
      | some (.pointer e), some (.slice b) => decide (e = t) && decide (b = u8T)
      | _, _ => false
    | _ => false
  | _ => false
def compCall (c : Call) : Option IOp :=
  match c.callee with
  | .value f => do
    let f ← lookX P nm 0 f
    if c.args.size = c.argTypes.size then
      let args ← (c.args.toList.zip c.argTypes.toList).mapM fun x => compX P nm h x.2 x.1
      let ls := match f with | .f n => (h.lend.lookup n).getD [] | _ => []
      pure (.call f (args.zipIdx.map fun x => (ls.contains x.2, x.1)))
    else none
  | .builtin .len =>
    match c.args.toList, c.argTypes.toList with
    | [x], [t] => match P.underlying t with
      | some .string => (lookX P nm t x).map (.len true)
      | some (.slice _) => (lookX P nm t x).map (.len false)
      | _ => none
    | _, _ => none
  | .builtin .append =>
    match c.args.toList, c.argTypes.toList with
    | [x, y], [t, u] => match P.underlying t with
      | some (.slice e) => do
        let i ← P.info? e
        let _ ← zeroC P e
        let x ← compX P nm h t x
        match P.underlying u with
        | some (.slice _) => do let y ← compX P nm h u y; if i.size = 0 ∨ i.bytes = 0 then none else pure (.app i.size (byU8 e i.bytes) x y)
        | some .string => do let y ← lookX P nm u y; if i.size = 1 ∧ i.bytes = 1 ∧ isU8 (P.underlying e) = true ∧ e = u8T then pure (.appS x y) else none
        | _ => none
      | _ => none
    | _, _ => none
  | .builtin .unsafeSliceData =>
    match c.args.toList, c.argTypes.toList with
    | [x], [t] => (lookX P nm t x).map .sdata
    | _, _ => none
  | .builtin .unsafeString =>
    match c.args.toList, c.argTypes.toList with
    | [x, y], [t, u] =>
      match P.underlying t with
      | some (.pointer e) => if e = u8T ∧ P.cellsOf e = 1 then do let x ← lookX P nm t x; let y ← lookX P nm u y; pure (.ustr x y) else none
      | _ => none
    | _, _ => none
  | .builtin .min =>
    match c.args.toList, c.argTypes.toList with
    | [x, y], [t, u] => do let x ← lookX P nm t x; let y ← lookX P nm u y; pure (.min x y)
    | _, _ => none
  | .builtin .max =>
    match c.args.toList, c.argTypes.toList with
    | [x, y], [t, u] => do let x ← lookX P nm t x; let y ← lookX P nm u y; pure (.max x y)
    | _, _ => none
  | _ => none
def compPart (fs : Array Field) (p : Nat × Operand) : Option (Nat × Nat × X) :=
  match fs[p.1]? with
  | some f =>
    match szOf P f.type, compX P nm h f.type p.2 with
    | some n, some x => if n = 0 then none else some (f.offset, n, x)
    | _, _ => none
  | none => none
def compElem (e : TypeId) (p : Nat × Operand) : Option (Nat × X) := (compX P nm h e p.2).map fun x => (p.1, x)
def compOp (o : Oper) : Option IOp :=
  match o.op with
  | .move x => (compX P nm h o.type x).map .mov
  | .assign x => (compX P nm h o.type x).map .mov
  | .pick c a b => do let c ← lookX P nm 0 c; let a ← lookX P nm o.type a; let b ← lookX P nm o.type b; pure (.pick c a b)
  | .alloc e => do
    let z ← zeroC P e
    if isBld P e = true then
      match z with
      | [.nilp, _] => some (.allocB e z)
      | _ => none
    else some (.alloc z)
  | .box e v => do let n ← szOf P e; let x ← compX P nm h e v; if n = 0 then none else if isBld P e = true then pure (.boxB e n x) else pure (.box n x)
  | .build t parts => do
    let z ← zeroC P t
    match P.underlying t with
    | some (.struct fs) => if (fs.toList.all fun f => (szOf P f.type).isSome) = true then (parts.toList.mapM (compPart P nm h fs)).map (.build z) else none
    | _ => none
  | .buildSlice t len parts => do
    match P.underlying t with
    | some (.slice e) => do
      let z ← zeroC P e
      match dataL z with
      | some row => if len * z.length > 2 ^ 24 ∨ z.length = 0 ∨ (u8Row row = true ∧ e ≠ u8T) then none else (parts.toList.mapM (compElem P nm h e)).map (.bslice z.length (List.replicate len row))
      | none => do
        let ps ← parts.toList.mapM (compElem P nm h e)
        if z.length = 1 ∧ len ≤ 2 ^ 24 ∧ ps.map (·.1) = List.range len then pure (.fslice (ps.map (·.2))) else none
    | _ => none
  | .load t a => do let n ← aggOf P t; let x ← lookX P nm 0 a; if n.1 = 0 then none else pure (.load n.1 n.2 x)
  | .store t a v => do let n ← szOf P t; let x ← lookX P nm 0 a; let v ← compX P nm h t v; if n = 0 then none else pure (.store (match a with | .tmp i => h.res.contains i | _ => false) n x v)
  | .nilCheck x => (lookX P nm 0 x).map .nilck
  | .binOp op t x y _ => do
    let tc ← classOf P op t y
    let x' ← lookX P nm t x
    let y' ← lookX P nm t y
    pure (.bin tc op x' y')
  | .unOp op t x => (lookX P nm t x).map (.un op)
  | .convert s d x => do
    let x' ← lookX P nm s x
    match P.underlying s, P.underlying d with
    | some (.int _), some (.int k) => pure (.conv (.int k) x')
    | some .string, some .string => pure (.conv .same x')
    | some .string, some (.slice e) => if isU8 (P.underlying e) = true ∧ e = u8T then pure (.conv .strBytes x') else none
    | some (.slice e), some .string => if isU8 (P.underlying e) = true then pure (.conv .bytesStr x') else none
    | _, _ => none
  | .makeFunc (.func f) a b => do
    let f ← (nm f).bind fun n => if n < fnsTag then some n else none
    let a ← a.toList.mapM (lookX P nm 0)
    let b ← b.toList.mapM (lookX P nm 0)
    pure (.mkfn f a b)
  | .makeSlice t l c =>
    match P.underlying t with
    | some (.slice e) => do
      let i ← P.info? e
      let z ← zeroC P e
      let row ← dataL z
      let l ← lookX P nm 0 l
      let c ← lookX P nm 0 c
      if i.size = 0 then none else pure (.mkslice i.size (byU8 e i.bytes) row l c)
    | _ => none
  | .slice t x lo hi mx => do
    let x ← lookX P nm t x
    let lo ← (match lo with | none => some none | some v => (lookX P nm 0 v).map some)
    let hi ← (match hi with | none => some none | some v => (lookX P nm 0 v).map some)
    let mx ← (match mx with | none => some none | some v => (lookX P nm 0 v).map some)
    match P.underlying t with
    | some .string => if mx.isSome then none else pure (.sliceS x lo hi)
    | some (.slice e) => do let n ← szOf P e; if n = 0 ∨ (mx.isSome ∧ hi.isNone) then none else pure (.slice n x lo hi mx)
    | _ => none
  | .fieldAddr s x f =>
    match P.underlying s with
    | some (.struct fs) => do
      let f ← fs[f]?
      let n ← szOf P f.type
      let x ← lookX P nm 0 x
      if n = 0 then none else pure (.fieldA f.offset x)
    | _ => none
  | .field t x f =>
    match P.underlying t with
    | some (.struct fs) => do
      let f ← fs[f]?
      let n ← aggOf P f.type
      let x ← lookX P nm t x
      pure (.field f.offset n.1 n.2 x)
    | _ => none
  | .indexAddr t x i =>
    match P.underlying t with
    | some (.slice e) => do let n ← szOf P e; let x ← lookX P nm t x; let i ← lookX P nm 0 i; if n = 0 then none else pure (.indexA n x i)
    | some (.array k e) => do let n ← szOf P e; let x ← lookX P nm 0 x; let i ← lookX P nm 0 i; if n = 0 then none else pure (.indexR k n x i)
    | _ => none
  | .index t x i =>
    match P.underlying t with
    | some .string => do let x ← lookX P nm t x; let i ← lookX P nm 0 i; pure (.index x i)
    | _ => none
  | .extract x j => (lookX P nm 0 x).map (.extract j)
  | .makeInterface t x =>
    match P.underlying t with
    | some (.interface _) => none
    | some _ => (lookX P nm t x).map .mkif
    | none => none
  | .makeMap t r =>
    match P.underlying t with
    | some (.map k e) => if isStrD (P.underlying k) = true ∧ isBoolD (P.underlying e) = true ∧ r.isNone = true ∧ o.dst.isSome = true then some .mkmap else none
    | _ => none
  | .lookup t m k ok =>
    match P.underlying t with
    | some (.map kt e) => do let m ← lookX P nm t m; let k ← lookX P nm kt k; if isStrD (P.underlying kt) = true ∧ isBoolD (P.underlying e) = true ∧ zeroB P e = true ∧ ok = false then pure (.mget m k) else none
    | _ => none
  | .mapUpdate t m k v =>
    match P.underlying t with
    | some (.map kt e) => do let m ← lookX P nm t m; let k ← lookX P nm kt k; let v ← lookX P nm e v; if isStrD (P.underlying kt) = true ∧ isBoolD (P.underlying e) = true then pure (.mset m k v) else none
    | _ => none
  | .call c => compCall P nm h c
  | _ => none
def unordered (ops : Array Oper) : List (Nat × Nat) :=
  let b := Region.before ops
  (List.range ops.size).flatMap fun j => (List.range j).filterMap fun i =>
    if (b.getD j 0).testBit i then none else some (i, j)
def edgesOk (ops : Array Oper) : Bool :=
  (List.range ops.size).all fun i => ((ops[i]?).map fun o => o.after.all fun e => !Region.binds .any e || decide (e.on < i)).getD false
def compOper (ops : Array Oper) (o : Oper) : Option IOper :=
  if (o.dst.all fun d => decide (d < h.nt)) = true then
    match o.guard with
    | none => some ⟨o.dst, (compOp P nm h o).getD .bad, none⟩
    | some (j, b) =>
      match (ops[j]?).bind (·.dst) with
      | some d => some ⟨o.dst, (compOp P nm h o).getD .bad, some (d, b)⟩
      | none => none
  else none
def compOps (ops : Array Oper) : Option (List IOper) := ops.toList.mapM (compOper P nm h ops)
def hintOf (l : List (Nat × (Option (List Nat) × Bool))) (id : Nat) : Option (List Nat) × Bool :=
  match l with
  | [] => (none, false)
  | x :: t => if x.1 = id then x.2 else hintOf t id
def compC : Code → Option ICode
  | .skip => some .skip
  | .region id ops draw => do
    let l ← compOps P nm h ops
    if draw = true ∧ edgesOk ops = false then none else
    pure (.reg (hintOf h.regs id).1 (hintOf h.regs id).2 l (if draw then some (unordered ops) else none))
  | .seq a b => do let x ← compC a; let y ← compC b; pure (.seq x y)
  | .cond c a b => do let c ← lookX P nm 0 c; let x ← compC a; let y ← compC b; pure (.cond c x y)
  | .block id b => (compC b).map (.block id)
  | .loop b => (compC b).map .loop
  | .exit id => some (.exit id)
  | .ret => some .ret
  | _ => some (.reg none false [⟨none, .bad, none⟩] none)
def compR : ResultVar → Option RV
  | .tmp t => some (.slot t)
  | .cell a t => do let n ← aggOf P t; pure (.cell a n.1 n.2)
def compF (f : Func) (forget : Bool) : Option IFunc := do
  let c ← f.body
  if h.nt ≠ f.ntmps then none else
  let b ← compC P nm h c
  let rs ← f.results.toList.mapM (compR P)
  pure ⟨f.ntmps, rs, b, forget⟩
end
end
section
inductive Lab where
  | imm
  | row (pl : Place) (o : Nat)
  | box (r : Root) (o : Nat)
abbrev LabF := Nat → Option Lab
def unfroz (n : Nat) (fz : Nat × Nat) : Prop := ∀ j, j < n → ¬ (fz.1 ≤ j ∧ j < fz.2)
def cellOf (rows : List (List D)) (i c : Nat) : Option D := (rows[i]?).bind (·[c]?)
theorem cellOf_some {rows : List (List D)} {i c : Nat} {x : D} : cellOf rows i c = some x ↔ ∃ r, rows[i]? = some r ∧ r[c]? = some x := by
  unfold cellOf
  cases rows[i]? <;> simp
inductive RepP (w : World) (L : LabF) : D → Value → Prop where
  | int {k n} : RepP w L (.int k n) (.int k n)
  | bool {b} : RepP w L (.bool b) (.bool b)
  | str {s} : RepP w L (.str s) (.string ⟨s.toArray⟩)
  | nil {sz} : RepP w L (.sl (.im true) sz []) (.slice none 0 0)
  | plE {sz a cap} : RepP w L (.sl (.im false) sz []) (.slice (some a) 0 cap)
  | dead {v} (h : v.oneCell' = true) : RepP w L .dead v
  | pl {sz rows B o cap cur e fz} (val : Nat → Nat → Value) (hne : rows ≠ []) (hsz : 0 < sz) (hcap : rows.length ≤ cap) (hL : L B = some .imm)
      (hB : w.heap[B]? = some (.cells cur e fz)) (hlen : ∀ r ∈ rows, r.length = sz)
      (hv : ∀ i c x, cellOf rows i c = some x → cur[o + i * sz + c]? = some (val i c))
      (hr : ∀ i c x, cellOf rows i c = some x → RepP w L x (val i c)) :
      RepP w L (.sl (.im false) sz rows) (.slice (some ⟨B, o, none⟩) rows.length cap)
def U8At (rows : List (List D)) (e : Nat) : Prop := (noU8 rows = false ∨ rows = []) → e = 5
inductive RepD (w : World) (L : LabF) : Place → D → Value → Prop where
  | plain {pl x v} (h : RepP w L x v) : RepD w L pl x v
  | ownE {pl sz a} : RepD w L pl (.sl .own sz []) (.slice (some a) 0 0)
  | own {pl sz rows B o cap cur e fz} (val : Nat → Nat → Value) (hsz : 0 < sz) (hL : L B = some (.row pl o))
      (hB : w.heap[B]? = some (.cells cur e fz)) (hfz : unfroz cur.size fz) (hlen : ∀ r ∈ rows, r.length = sz)
      (hcap : rows.length ≤ cap) (hroom : o + cap * sz ≤ cur.size)
      (hv : ∀ i c x, cellOf rows i c = some x → cur[o + i * sz + c]? = some (val i c))
      (hr : ∀ i c x, cellOf rows i c = some x → RepD w L (pl.sub i c) x (val i c)) (hu : U8At rows e) :
      RepD w L pl (.sl .own sz rows) (.slice (some ⟨B, o, none⟩) rows.length cap)
theorem RepP.oneCell {w : World} {L : LabF} {x : D} {v : Value} (h : RepP w L x v) : v.oneCell' = true := by
  cases h <;> first | rfl | assumption
theorem RepD.oneCell {w : World} {L : LabF} {pl : Place} {x : D} {v : Value} (h : RepD w L pl x v) : v.oneCell' = true := by
  cases h with
  | plain h => exact h.oneCell
  | ownE => rfl
  | own => rfl
def ImmKept (w w' : World) (L L' : LabF) : Prop := ∀ B, L B = some .imm → L' B = some .imm ∧ w'.heap[B]? = w.heap[B]?
theorem RepP.mono {w w' : World} {L L' : LabF} (himm : ImmKept w w' L L') {x : D} {v : Value} (h : RepP w L x v) : RepP w' L' x v := by
  induction h with
  | int => exact .int
  | bool => exact .bool
  | str => exact .str
  | nil => exact .nil
  | plE => exact .plE
  | dead h => exact .dead h
  | pl val hne hsz hcap hL hB hlen hv hr ih => exact .pl val hne hsz hcap (himm _ hL).1 ((himm _ hL).2.trans hB) hlen hv ih
theorem RepD.move {w w' : World} {L L' : LabF} (f : Place → Place) (U : Place → Prop)
    (hU : ∀ q i c, U q → U (q.sub i c)) (hf : ∀ q i c, U q → f (q.sub i c) = (f q).sub i c)
    (himm : ImmKept w w' L L')
    (hrow : ∀ B q o, U q → L B = some (.row q o) → L' B = some (.row (f q) o) ∧ w'.heap[B]? = w.heap[B]?)
    {pl : Place} {x : D} {v : Value} (h : RepD w L pl x v) : U pl → RepD w' L' (f pl) x v := by
  induction h with
  | plain h => exact fun _ => .plain (h.mono himm)
  | ownE => exact fun _ => .ownE
  | @own pl sz rows B o cap cur e fz val hsz hL hB hfz hlen hcap hroom hv hr hu8 ih =>
    intro hu
    obtain ⟨h1, h2⟩ := hrow B pl o hu hL
    refine .own val hsz h1 (h2.trans hB) hfz hlen hcap hroom hv ?_ hu8
    intro i c x hx
    have := ih i c x hx (hU _ _ _ hu)
    rwa [hf _ _ _ hu] at this
theorem plainRs_length : ∀ r : List (List D), (plainRs r).length = r.length
  | [] => rfl
  | _ :: t => by simp [plainRs, plainRs_length t]
theorem plainR_eq : ∀ r : List D, plainR r = r.map plainD
  | [] => rfl
  | _ :: t => by simp [plainR, plainR_eq t]
theorem plainRs_eq : ∀ r : List (List D), plainRs r = r.map (·.map plainD)
  | [] => rfl
  | _ :: t => by simp [plainRs, plainRs_eq t, plainR_eq]
theorem cellOf_plain (rows : List (List D)) (i c : Nat) : cellOf (plainRs rows) i c = (cellOf rows i c).map plainD := by
  simp only [cellOf, plainRs_eq, List.getElem?_map]
  cases rows[i]? with
  | none => rfl
  | some r => simp
theorem RepP.plainD_eq {w : World} {L : LabF} {x : D} {v : Value} (h : RepP w L x v) : plainD x = x := by
  cases h <;> simp [plainD]
theorem RepD.freeze {w w' : World} {L L' : LabF} (U : Place → Prop)
    (hU : ∀ q i c, U q → U (q.sub i c))
    (himm : ImmKept w w' L L')
    (hrow : ∀ B q o, U q → L B = some (.row q o) → L' B = some .imm ∧ w'.heap[B]? = w.heap[B]?)
    {pl : Place} {x : D} {v : Value} (h : RepD w L pl x v) : U pl → RepP w' L' (plainD x) v := by
  induction h with
  | plain h => intro _; rw [h.plainD_eq]; exact h.mono himm
  | ownE => intro _; simp only [plainD, plainRs]; exact .plE
  | @own pl sz rows B o cap cur e fz val hsz hL hB hfz hlen hcap hroom hv hr hu8 ih =>
    intro hu
    obtain ⟨h1, h2⟩ := hrow B pl o hu hL
    simp only [plainD]
    rw [← plainRs_length rows]
    cases hrows : rows with
    | nil => simp only [plainRs, List.length_nil]; exact .plE
    | cons r0 t0 =>
      rw [← hrows]
      refine .pl val (by rw [hrows]; simp [plainRs]) hsz (by rw [plainRs_length]; exact hcap) h1 (h2.trans hB) ?_ ?_ ?_
      · intro r hr'
        rw [plainRs_eq] at hr'
        obtain ⟨r1, h3, rfl⟩ := List.mem_map.1 hr'
        simpa using hlen r1 h3
      · intro i c x hx
        rw [cellOf_plain] at hx
        cases hc : cellOf rows i c with
        | none => simp [hc] at hx
        | some y => exact hv i c y hc
      · intro i c x hx
        rw [cellOf_plain] at hx
        cases hc : cellOf rows i c with
        | none => simp [hc] at hx
        | some y =>
          simp only [hc, Option.map_some, Option.some.injEq] at hx
          subst hx
          exact ih i c y hc (hU _ _ _ hu)
def Place.app (pl : Place) (p : List (Nat × Nat)) : Place := { pl with p := pl.p ++ p }
theorem Place.app_nil (pl : Place) : pl.app [] = pl := by simp [Place.app]
theorem Place.app_cons (pl : Place) (i c : Nat) (p : List (Nat × Nat)) : pl.app ((i, c) :: p) = (pl.sub i c).app p := by simp [Place.app, Place.sub]
theorem Place.app_sub (pl : Place) (i c : Nat) (p : List (Nat × Nat)) : pl.app (p ++ [(i, c)]) = (pl.app p).sub i c := by simp [Place.app, Place.sub]
theorem navD_cons {sz : Nat} {rows : List (List D)} {i c : Nat} {p : List (Nat × Nat)} : navD (.sl .own sz rows) ((i, c) :: p) = (cellOf rows i c).bind (navD · p) := by
  simp [navD, cellOf]
theorem navD_tag {x y : D} {i c : Nat} {p : List (Nat × Nat)} (h : navD x ((i, c) :: p) = some y) : ∃ sz rows z, x = .sl .own sz rows ∧ cellOf rows i c = some z ∧ navD z p = some y := by
  cases x with
  | sl t sz rows =>
    cases t with
    | own =>
      rw [navD_cons] at h
      cases hz : cellOf rows i c with
      | none => simp [hz] at h
      | some z => exact ⟨sz, rows, z, rfl, hz, by simpa [hz] using h⟩
    | im b => simp [navD] at h
  | int => simp [navD] at h
  | bool => simp [navD] at h
  | str => simp [navD] at h
  | dead => simp [navD] at h
theorem RepD.nav {w : World} {L : LabF} : ∀ (p : List (Nat × Nat)) {pl : Place} {x y : D} {v : Value}, RepD w L pl x v → navD x p = some y →
    ∃ u, RepD w L (pl.app p) y u
  | [], pl, x, y, v, h, hn => by
    simp only [navD, Option.some.injEq] at hn
    subst hn
    rw [Place.app_nil]
    exact ⟨v, h⟩
  | (i, c) :: p, pl, x, y, v, h, hn => by
    obtain ⟨sz, rows, z, rfl, hz, hy⟩ := navD_tag hn
    rw [Place.app_cons]
    cases h with
    | plain h => cases h
    | ownE => simp [cellOf] at hz
    | own val hsz hL hB hfz hlen hcap hroom hv hr hu8 => exact RepD.nav p (hr i c z hz) hy
theorem RepD.own_inv {w : World} {L : LabF} {pl : Place} {sz : Nat} {rows : List (List D)} {v : Value} (h : RepD w L pl (.sl .own sz rows) v) :
    (rows = [] ∧ ∃ a, v = .slice (some a) 0 0) ∨
    ∃ B o cap cur e fz, ∃ val : Nat → Nat → Value, v = .slice (some ⟨B, o, none⟩) rows.length cap ∧ 0 < sz ∧ L B = some (.row pl o) ∧
      w.heap[B]? = some (.cells cur e fz) ∧ unfroz cur.size fz ∧ (∀ r ∈ rows, r.length = sz) ∧ rows.length ≤ cap ∧ o + cap * sz ≤ cur.size ∧
      (∀ i c x, cellOf rows i c = some x → cur[o + i * sz + c]? = some (val i c)) ∧
      (∀ i c x, cellOf rows i c = some x → RepD w L (pl.sub i c) x (val i c)) ∧ U8At rows e := by
  cases h with
  | plain h => cases h
  | ownE => exact .inl ⟨rfl, _, rfl⟩
  | own val hsz hL hB hfz hlen hcap hroom hv hr hu8 => exact .inr ⟨_, _, _, _, _, _, val, rfl, hsz, hL, hB, hfz, hlen, hcap, hroom, hv, hr, hu8⟩
theorem cellOf_set {rows : List (List D)} {i c : Nat} {old : D} (h : cellOf rows i c = some old) (z : D) (i' c' : Nat) :
    cellOf (rows.set i ((rows.getD i []).set c z)) i' c' = if i' = i ∧ c' = c then some z else cellOf rows i' c' := by
  obtain ⟨r, hr, hc⟩ := cellOf_some.1 h
  have hi : i < rows.length := (List.getElem?_eq_some_iff.1 hr).1
  have hcl : c < r.length := (List.getElem?_eq_some_iff.1 hc).1
  have hg : rows.getD i [] = r := by rw [List.getD_eq_getElem?_getD, hr]; rfl
  rw [hg]
  unfold cellOf
  rw [List.getElem?_set]
  by_cases h1 : i = i'
  · subst h1
    simp only [if_true, hi, true_and, Option.bind_some, List.getElem?_set, hr]
    by_cases h2 : c = c'
    · subst h2; simp [hcl]
    · simp [h2, Ne.symm h2]
  · simp [h1, Ne.symm h1]
theorem set_rows_len {rows : List (List D)} {sz i c : Nat} {z : D} (hlen : ∀ r ∈ rows, r.length = sz) : ∀ r ∈ rows.set i ((rows.getD i []).set c z), r.length = sz := by
  intro r hr
  by_cases hi : i < rows.length
  · rcases List.mem_or_eq_of_mem_set hr with h | h
    · exact hlen r h
    · subst h
      have hg : rows.getD i [] = rows[i] := by rw [List.getD_eq_getElem?_getD, List.getElem?_eq_getElem hi]; rfl
      rw [List.length_set, hg]
      exact hlen _ (List.getElem_mem hi)
  · rw [List.set_eq_of_length_le (by omega)] at hr
    exact hlen r hr
theorem noU8_false {rows : List (List D)} : noU8 rows = false ↔ rows ≠ [] ∧ ∀ r ∈ rows, u8Row r = true := by
  cases rows with
  | nil => simp [noU8]
  | cons r t => simp [noU8]
theorem U8At.set {rows : List (List D)} {e i c : Nat} {old z : D} (h : U8At rows e) (hc : cellOf rows i c = some old) (hz : u8st z old = true) : U8At (rows.set i ((rows.getD i []).set c z)) e := by
  intro hn
  obtain ⟨r, hr, hrc⟩ := cellOf_some.1 hc
  have hi : i < rows.length := (List.getElem?_eq_some_iff.1 hr).1
  have hn : noU8 (rows.set i ((rows.getD i []).set c z)) = false := hn.resolve_right fun e => by
    have h3 := congrArg List.length e
    rw [List.length_set, List.length_nil] at h3
    omega
  obtain ⟨h1, h2⟩ := noU8_false.1 hn
  have hg : rows.getD i [] = r := by rw [List.getD_eq_getElem?_getD, hr]; rfl
  refine h (.inl (noU8_false.2 ⟨fun e => by rw [e] at hi; simp at hi, fun q hq => ?_⟩))
  obtain ⟨k, hk⟩ := List.getElem?_of_mem hq
  by_cases hki : i = k
  · subst hki
    rw [hr] at hk
    simp only [Option.some.injEq] at hk
    subst hk
    have := h2 (r.set c z) (by rw [hg]; exact List.mem_of_getElem? (by rw [List.getElem?_set_self hi]))
    cases r with
    | nil => simp at hrc
    | cons d t =>
      cases t with
      | nil =>
        cases c with
        | zero =>
          simp at hrc
          subst hrc
          simp only [List.set, u8Row] at this ⊢
          simp only [u8st, this, Bool.not_true, Bool.false_or] at hz
          exact hz
        | succ c => simp at hrc
      | cons d2 t => cases c with
        | zero => simp [u8Row] at this
        | succ c => cases c <;> simp [u8Row] at this
  · exact h2 q (List.mem_of_getElem? (by rw [List.getElem?_set_ne hki]; exact hk))
theorem heap_setCell_ne (w : World) (a : Addr) (u : Value) (B : Nat) (h : B ≠ a.block) : (w.setCell a u).heap[B]? = w.heap[B]? := by
  simp only [World.setCell, Array.getElem?_modify]
  rw [if_neg (fun e => h e.symm)]
theorem heap_setCell_eq (w : World) (B j : Nat) (u : Value) {cur : Array Value} {e : TypeId} {fz : Nat × Nat} (h : w.heap[B]? = some (.cells cur e fz)) :
    (w.setCell ⟨B, j, none⟩ u).heap[B]? = some (.cells (cur.setIfInBounds j u) e fz) := by
  simp [World.setCell, Array.getElem?_modify, h]
theorem idx_ne {sz i c i' c' : Nat} (hc : c < sz) (hc' : c' < sz) (h : ¬ (i' = i ∧ c' = c)) : i * sz + c ≠ i' * sz + c' := by
  intro e
  apply h
  have h1 : (i * sz + c) / sz = i := by rw [Nat.mul_comm, Nat.mul_add_div (by omega)]; rw [Nat.div_eq_of_lt hc]; rfl
  have h2 : (i' * sz + c') / sz = i' := by rw [Nat.mul_comm, Nat.mul_add_div (by omega)]; rw [Nat.div_eq_of_lt hc']; rfl
  have : i = i' := by rw [← h1, ← h2, e]
  subst this
  exact ⟨rfl, by omega⟩
theorem cellOf_lt {rows : List (List D)} {sz i c : Nat} {x : D} (hlen : ∀ r ∈ rows, r.length = sz) (h : cellOf rows i c = some x) : i < rows.length ∧ c < sz := by
  obtain ⟨r, hr, hc⟩ := cellOf_some.1 h
  obtain ⟨hi, rfl⟩ := List.getElem?_eq_some_iff.1 hr
  refine ⟨hi, ?_⟩
  rw [← hlen _ (List.getElem_mem hi)]
  exact (List.getElem?_eq_some_iff.1 hc).1
def Under (t q : Place) : Prop := ∃ r, q = t.app r
theorem Under.refl (t : Place) : Under t t := ⟨[], (Place.app_nil t).symm⟩
theorem Under.sub {t q : Place} (h : Under t q) (i c : Nat) : Under t (q.sub i c) := by
  obtain ⟨r, rfl⟩ := h
  exact ⟨r ++ [(i, c)], (Place.app_sub t i c r).symm⟩
theorem Place.app_inj {t : Place} {r r' : List (Nat × Nat)} (h : t.app r = t.app r') : r = r' := by
  simpa [Place.app] using h
theorem Under.not_self {t : Place} {i c : Nat} : ¬ Under (t.sub i c) t := by
  rintro ⟨r, h⟩
  have : t.p = t.p ++ [(i, c)] ++ r := congrArg Place.p h
  have := congrArg List.length this
  simp at this
theorem Under.apart {t q : Place} {i c i' c' : Nat} (h : Under (t.sub i c) q) (h' : Under (t.sub i' c') q) : i = i' ∧ c = c' := by
  obtain ⟨r, rfl⟩ := h
  obtain ⟨r', h'⟩ := h'
  have : t.p ++ [(i, c)] ++ r = t.p ++ [(i', c')] ++ r' := congrArg Place.p h'
  simp only [List.append_assoc, List.append_cancel_left_eq, List.singleton_append, List.cons.injEq, Prod.mk.injEq] at this
  exact this.1
theorem setD_cons {sz : Nat} {rows : List (List D)} {i c : Nat} {p : List (Nat × Nat)} {y z : D} (h : cellOf rows i c = some z) :
    setD (.sl .own sz rows) ((i, c) :: p) y = .sl .own sz (rows.set i ((rows.getD i []).set c (setD z p y))) := by
  obtain ⟨r, hr, hc⟩ := cellOf_some.1 h
  have hg : rows.getD i [] = r := by rw [List.getD_eq_getElem?_getD, hr]; rfl
  have hg2 : r.getD c (.bool false) = z := by rw [List.getD_eq_getElem?_getD, hc]; rfl
  rw [setD, hg, hg2]
theorem RepD.set {w : World} {L L' : LabF} {B o sz i c : Nat} {rows : List (List D)} {old y : D} {u : Value} (hc : cellOf rows i c = some old) :
    ∀ (p : List (Nat × Nat)) {pl : Place} {x : D} {v : Value}, RepD w L pl x v → navD x p = some (.sl .own sz rows) → L B = some (.row (pl.app p) o) →
      (∀ B' q o', L B' = some (.row q o') → q = pl.app p → B' = B) →
      ImmKept w (w.setCell ⟨B, o + i * sz + c, none⟩ u) L L' →
      (∀ B' q o', Under pl q → ¬ Under ((pl.app p).sub i c) q → L B' = some (.row q o') → L' B' = some (.row q o')) →
      RepD (w.setCell ⟨B, o + i * sz + c, none⟩ u) L' ((pl.app p).sub i c) y u → u8st y old = true →
      RepD (w.setCell ⟨B, o + i * sz + c, none⟩ u) L' pl (setD x (p ++ [(i, c)]) y) v
  | [], pl, x, v, h, hn, hB, hinj, himm, hrow, hy, hst => by
    simp only [navD, Option.some.injEq] at hn
    subst hn
    rw [Place.app_nil] at *
    rcases h.own_inv with ⟨rfl, _⟩ | ⟨B0, o0, cap, cur, e, fz, val, rfl, hsz, hL, hH, hfz, hlen, hcap, hroom, hv, hr, hu8⟩
    · simp [cellOf] at hc
    obtain rfl := hinj B0 pl o0 hL rfl
    obtain rfl : o0 = o := by rw [hL] at hB; simpa using hB
    simp only [List.nil_append]
    rw [setD_cons hc, setD]
    obtain ⟨hi, hcs⟩ := cellOf_lt hlen hc
    have hlen' := set_rows_len (i := i) (c := c) (z := y) hlen
    have hlt : i * sz + c < cap * sz := by
      have : (i + 1) * sz ≤ cap * sz := Nat.mul_le_mul_right _ (by omega)
      rw [Nat.add_mul] at this; omega
    have hrl : (rows.set i ((rows.getD i []).set c y)).length = rows.length := List.length_set ..
    rw [← hrl]
    refine .own (fun a b => if a = i ∧ b = c then u else val a b) hsz (hrow _ _ _ (Under.refl _) Under.not_self hL) (heap_setCell_eq w B0 _ u hH) (by simpa using hfz) hlen' (by rw [hrl]; exact hcap) (by simpa using hroom) ?_ ?_ (hu8.set hc hst)
    · intro a b x hx
      rw [cellOf_set hc] at hx
      by_cases hab : a = i ∧ b = c
      · obtain ⟨rfl, rfl⟩ := hab
        simp only [and_self, if_true]
        rw [Array.getElem?_setIfInBounds]
        simp only [if_true]
        rw [if_pos (by omega)]
      · simp only [hab, if_false] at hx ⊢
        obtain ⟨ha, hb⟩ := cellOf_lt hlen hx
        rw [Array.getElem?_setIfInBounds, if_neg]
        · exact hv a b x hx
        · have := idx_ne hcs hb hab; omega
    · intro a b x hx
      rw [cellOf_set hc] at hx
      by_cases hab : a = i ∧ b = c
      · obtain ⟨rfl, rfl⟩ := hab
        simp only [and_self, if_true, Option.some.injEq] at hx ⊢
        subst hx
        exact hy
      · simp only [hab, if_false] at hx ⊢
        refine RepD.move id (Under (pl.sub a b)) (fun q i c h => h.sub i c) (fun _ _ _ _ => rfl) himm ?_ (hr a b x hx) (Under.refl _)
        intro B' q o' hq hL'
        have hne : ¬ Under (pl.sub i c) q := fun h => hab ⟨(Under.apart hq h).1, (Under.apart hq h).2⟩
        have hsub : Under pl q := by obtain ⟨r, rfl⟩ := hq; exact ⟨(a, b) :: r, (Place.app_cons pl a b r).symm⟩
        refine ⟨hrow _ _ _ hsub hne hL', heap_setCell_ne _ _ _ _ ?_⟩
        rintro rfl
        rw [hL] at hL'
        simp only [Option.some.injEq, Lab.row.injEq] at hL'
        rw [← hL'.1] at hq
        exact Under.not_self hq
  | (a, b) :: p, pl, x, v, h, hn, hB, hinj, himm, hrow, hy, hst => by
    obtain ⟨sz0, rows0, z, rfl, hz, hzy⟩ := navD_tag hn
    rcases h.own_inv with ⟨rfl, _⟩ | ⟨B0, o0, cap, cur, e, fz, val, rfl, hsz, hL, hH, hfz, hlen, hcap, hroom, hv, hr, hu8⟩
    · simp [cellOf] at hz
    have hne0 : B0 ≠ B := by
      rintro rfl
      rw [hL] at hB
      simp only [Option.some.injEq, Lab.row.injEq] at hB
      have := congrArg (fun q : Place => q.p.length) hB.1
      simp [Place.app] at this
    have hcell := cellOf_set hz (setD z (p ++ [(i, c)]) y)
    simp only [List.cons_append]
    rw [setD_cons hz]
    have hrl : (rows0.set a ((rows0.getD a []).set b (setD z (p ++ [(i, c)]) y))).length = rows0.length := List.length_set ..
    have hup : ∀ q, Under (pl.sub a b) q → Under pl q := by rintro q ⟨r, rfl⟩; exact ⟨(a, b) :: r, (Place.app_cons pl a b r).symm⟩
    have ht : Under (pl.sub a b) ((pl.app ((a, b) :: p)).sub i c) := by rw [Place.app_cons]; exact ⟨p ++ [(i, c)], (Place.app_sub _ i c p).symm⟩
    rw [← hrl]
    refine .own val hsz (hrow _ _ _ (Under.refl _) ?_ hL) ((heap_setCell_ne _ _ _ _ hne0).trans hH) hfz (set_rows_len hlen) (by rw [hrl]; exact hcap) hroom ?_ ?_ (hu8.set hz (by
      obtain ⟨_, _, _, h7, _⟩ : ∃ (t : Tag) (s : Nat) (R : List (List D)), setD z (p ++ [(i, c)]) y = .sl t s R ∧ True := by
        cases p with
        | nil =>
          simp only [navD, Option.some.injEq] at hzy
          subst hzy
          exact ⟨_, _, _, rfl, trivial⟩
        | cons x0 p0 =>
          obtain ⟨s1, R1, z1, rfl, _, _⟩ := navD_tag hzy
          exact ⟨_, _, _, rfl, trivial⟩
      rw [h7]; rfl))
    · rintro ⟨r, h1⟩
      obtain ⟨r2, h2⟩ := ht
      have h3 := congrArg (fun q : Place => q.p.length) h1
      have h4 := congrArg (fun q : Place => q.p.length) h2
      simp [Place.app, Place.sub] at h3 h4
    · intro a' b' x hx
      rw [hcell] at hx
      by_cases hab : a' = a ∧ b' = b
      · obtain ⟨rfl, rfl⟩ := hab; exact hv _ _ z hz
      · simp only [hab, if_false] at hx; exact hv _ _ x hx
    · intro a' b' x hx
      rw [hcell] at hx
      by_cases hab : a' = a ∧ b' = b
      · obtain ⟨rfl, rfl⟩ := hab
        simp only [and_self, if_true, Option.some.injEq] at hx
        subst hx
        rw [Place.app_cons] at hB hinj hrow hy
        exact RepD.set hc p (hr _ _ z hz) hzy hB hinj himm (fun B' q o' h1 h2 h3 => hrow B' q o' (hup q h1) h2 h3) hy hst
      · simp only [hab, if_false] at hx
        refine RepD.move id (Under (pl.sub a' b')) (fun q i c h => h.sub i c) (fun _ _ _ _ => rfl) himm ?_ (hr a' b' x hx) (Under.refl _)
        intro B' q o' hq hL'
        have hne : ¬ Under (pl.sub a b) q := fun h => hab ⟨(Under.apart hq h).1, (Under.apart hq h).2⟩
        have hnt : ¬ Under ((pl.app ((a, b) :: p)).sub i c) q := by
          rintro ⟨r, rfl⟩
          apply hne
          obtain ⟨r2, h2⟩ := ht
          rw [h2]
          exact ⟨r2 ++ r, by simp [Place.app]⟩
        have hsub : Under pl q := by obtain ⟨r, rfl⟩ := hq; exact ⟨(a', b') :: r, (Place.app_cons pl a' b' r).symm⟩
        refine ⟨hrow _ _ _ hsub hnt hL', heap_setCell_ne _ _ _ _ ?_⟩
        rintro rfl
        have := hL'
        rw [hB] at this
        simp only [Option.some.injEq, Lab.row.injEq] at this
        apply hne
        rw [← this.1, Place.app_cons]
        exact ⟨p, rfl⟩
theorem RepD.subst {w : World} {L L' : LabF} {z y : D} :
    ∀ (p : List (Nat × Nat)) {pl : Place} {x : D} {v : Value}, RepD w L pl x v → navD x p = some z →
      ImmKept w w L L' →
      (∀ B' q o', Under pl q → ¬ Under (pl.app p) q → L B' = some (.row q o') → L' B' = some (.row q o')) →
      (∀ u, RepD w L (pl.app p) z u → RepD w L' (pl.app p) y u) → isU8D y = false →
      RepD w L' pl (setD x p y) v
  | [], pl, x, v, h, hn, himm, hrow, hy, hst => by
    simp only [navD, Option.some.injEq] at hn
    subst hn
    rw [Place.app_nil] at hy
    rw [setD]
    exact hy v h
  | (a, b) :: p, pl, x, v, h, hn, himm, hrow, hy, hst => by
    obtain ⟨sz0, rows0, z0, rfl, hz, hzy⟩ := navD_tag hn
    rcases h.own_inv with ⟨rfl, _⟩ | ⟨B0, o0, cap, cur, e, fz, val, rfl, hsz, hL, hH, hfz, hlen, hcap, hroom, hv, hr, hu8⟩
    · simp [cellOf] at hz
    have hcell := cellOf_set hz (setD z0 p y)
    rw [setD_cons hz]
    have hrl : (rows0.set a ((rows0.getD a []).set b (setD z0 p y))).length = rows0.length := List.length_set ..
    have hup : ∀ q, Under (pl.sub a b) q → Under pl q := by rintro q ⟨r, rfl⟩; exact ⟨(a, b) :: r, (Place.app_cons pl a b r).symm⟩
    have ht : Under (pl.sub a b) (pl.app ((a, b) :: p)) := by rw [Place.app_cons]; exact ⟨p, rfl⟩
    rw [← hrl]
    refine .own val hsz (hrow _ _ _ (Under.refl _) ?_ hL) hH hfz (set_rows_len hlen) (by rw [hrl]; exact hcap) hroom ?_ ?_ (hu8.set hz (by
      have : isU8D (setD z0 p y) = false := by
        cases p with
        | nil => exact hst
        | cons x0 p0 => obtain ⟨s1, R1, z1, rfl, _, _⟩ := navD_tag hzy; rfl
      simp [u8st, this]))
    · rintro ⟨r, h1⟩
      have h3 := congrArg (fun q : Place => q.p.length) h1
      simp [Place.app, Place.sub] at h3
    · intro a' b' x hx
      rw [hcell] at hx
      by_cases hab : a' = a ∧ b' = b
      · obtain ⟨rfl, rfl⟩ := hab; exact hv _ _ z0 hz
      · simp only [hab, if_false] at hx; exact hv _ _ x hx
    · intro a' b' x hx
      rw [hcell] at hx
      by_cases hab : a' = a ∧ b' = b
      · obtain ⟨rfl, rfl⟩ := hab
        simp only [and_self, if_true, Option.some.injEq] at hx
        subst hx
        rw [Place.app_cons] at hrow hy
        exact RepD.subst p (hr _ _ z0 hz) hzy himm (fun B' q o' h1 h2 h3 => hrow B' q o' (hup q h1) h2 h3) hy hst
      · simp only [hab, if_false] at hx
        refine RepD.move id (Under (pl.sub a' b')) (fun q i c h => h.sub i c) (fun _ _ _ _ => rfl) himm ?_ (hr a' b' x hx) (Under.refl _)
        intro B' q o' hq hL'
        have hne : ¬ Under (pl.sub a b) q := fun h => hab ⟨(Under.apart hq h).1, (Under.apart hq h).2⟩
        have hnt : ¬ Under (pl.app ((a, b) :: p)) q := by
          rintro ⟨r, rfl⟩
          apply hne
          obtain ⟨r2, h2⟩ := ht
          rw [h2]
          exact ⟨r2 ++ r, by simp [Place.app]⟩
        have hsub : Under pl q := by obtain ⟨r, rfl⟩ := hq; exact ⟨(a', b') :: r, (Place.app_cons pl a' b' r).symm⟩
        exact ⟨hrow _ _ _ hsub hnt hL', rfl⟩
end
end Go.Abs
