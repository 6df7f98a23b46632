/- The domain of the abstract evaluator: values as data, places, states. Nothing here speaks of a world. -/
import GoSem.Core.Code
import GoSem.Core.Machine
namespace Go.Abs

/-- What is known of a slice: memory that nobody writes any more, or none, and whether it is nil; memory that belongs to the place that holds the slice (or none: no element and no room). -/
inductive Tag where | im (nil : Bool) | own
  deriving DecidableEq

/-- One cell as data. A slice bears its rows (a row: the cells of one element). -/
inductive D where
  | int (k : IntKind) (n : Int)
  | bool (b : Bool)
  | str (s : List UInt8)
  | sl (t : Tag) (sz : Nat) (rows : List (List D))
  | dead
  deriving Inhabited

/-- A box: the i-th that was handed in; the one that the operation with that slot made; a slice's head that was lent (no memory holds it). -/
inductive Root where | e (i : Nat) | l (i : Nat) | g (i : Nat)
  deriving DecidableEq, Inhabited

def Root.isG : Root → Bool
  | .g _ => true
  | _ => false

/-- What a state has entries for: a slot; a cell of a box; a box as such; what is under way (in no entry); the count of appends to slices of an entry. -/
inductive Key where | s (i : Nat) | b (r : Root) (c : Nat) | r (r : Root) | h (i : Nat) | a (k : Key)
  deriving DecidableEq, Inhabited

/-- Where a slice of one's own lies: an entry, a cell of it, and a way through rows and cells. -/
structure Place where
  k : Key
  j : Nat
  p : List (Nat × Nat)
  deriving DecidableEq, Inhabited

def Place.sub (pl : Place) (i c : Nat) : Place := { pl with p := pl.p ++ [(i, c)] }

/-- One cell of an entry. -/
inductive C where
  | d (x : D)
  | ptr (r : Root) (g c : Nat)
  | eptr (pl : Place) (g sz i c : Nat)
  | pp (cells : List D)
  | view (pl : Place) (g sz off len : Nat)
  | appd (pl : Place) (g a sz : Nat) (rows : List (List D))
  | fn (f : Nat) (first cap : List C)
  | nilp | nilf | nili
  | ifc
  | dead
  deriving Inhabited

inductive V where
  | one (c : C)
  | agg (cs : List C)
  | tup (vs : List V)
  deriving Inhabited

def V.dead : V := .one .dead

/-- What the entry of a box as such tells: how many cells it has. -/
def boxN : V → Nat
  | .one (.d (.int _ n)) => n.toNat
  | _ => 0
def sizeV (n : Nat) : V := .one (.d (.int .i64 n))

structure Ent where
  v : V
  g : Nat
  deriving Inhabited

abbrev St := List (Key × Ent)

def St.get (S : St) (k : Key) : Ent :=
  match S with
  | [] => ⟨.one .dead, 0⟩
  | (k', e) :: t => if k' = k then e else St.get t k

def St.put (S : St) (k : Key) (e : Ent) : St :=
  match S with
  | [] => [(k, e)]
  | (k', e') :: t => if k' = k then (k, e) :: t else (k', e') :: St.put t k e

/-- Writes, one behind the other; each turns the entry's count. -/
structure Wr where
  k : Key
  v : V
  keep : Bool := false      -- the count stays: no slice's head in the entry turns
  deriving Inhabited

def St.wr (S : St) (x : Wr) : St := S.put x.k ⟨x.v, if x.keep then (S.get x.k).g else (S.get x.k).g + 1⟩
/-- Writes, the newest first. -/
def St.wrs (S : St) : List Wr → St
  | [] => S
  | x :: t => (S.wrs t).wr x

/-- What is asked of data, in continuation form. -/
def qTest {R : Type} (b : Bool) (k : Unit → Option R) : Option R := bif b then k () else none
def qAsk {R : Type} (b : Bool) (k : Bool → Option R) : Option R := bif b then k true else k false
def qOwn {R : Type} (d : D) (k : Nat → List (List D) → Option R) : Option R := match d with | .sl .own sz rows => k sz rows | _ => none
def qOpt {β R : Type} (o : Option β) (k : β → Option R) : Option R := match o with | some b => k b | none => none

/-- A reading of a state. 'cps': something is asked of data alone; the answer goes on. -/
inductive Q (α : Type) : Type 1 where
  | ret (a : α)
  | get (k : Key) (f : Ent → Q α)
  | cps {β : Type} (h : (R : Type) → (β → Option R) → Option R) (nat : ∀ (R : Type) (k : β → Option R), h R k = (h β some).bind k) (f : β → Q α)
  | no

namespace Q
def bind {α β : Type} : Q α → (α → Q β) → Q β
  | .ret a, f => f a
  | .get k g, f => .get k fun e => (g e).bind f
  | .cps h nat g, f => .cps h nat fun b => (g b).bind f
  | .no, _ => .no
instance : Monad Q where
  pure := Q.ret
  bind := Q.bind
def at_ (k : Key) : Q Ent := .get k .ret
def run {α : Type} (S : St) : Q α → Option α
  | .ret a => some a
  | .get k f => (f (S.get k)).run S
  | .cps h _ f => h α fun b => (f b).run S
  | .no => none
def reads {α : Type} (S : St) : Q α → List Key
  | .ret _ => []
  | .get k f => k :: (f (S.get k)).reads S
  | .cps h _ f => (h (List Key) fun b => some ((f b).reads S)).getD []
  | .no => []
def guard (b : Bool) : Q Unit := .cps (fun _ k => qTest b fun _ => k ()) (by intro R k; cases b <;> rfl) .ret
def ofO {α : Type} (o : Option α) : Q α := .cps (fun _ k => qOpt o k) (by intro R k; cases o <;> rfl) .ret
/-- A truth, known from here on. -/
def ask (b : Bool) : Q Bool := .cps (fun _ k => qAsk b k) (by intro R k; cases b <;> rfl) .ret
/-- A slice of one's own. -/
def asOwn (d : D) : Q D := .cps (fun _ k => qOwn d fun sz rows => k (.sl .own sz rows)) (by intro R k; unfold qOwn; split <;> rfl) .ret
end Q

section
variable {α β : Type} (S : St)
@[simp] theorem Q.run_ret (a : α) : (Q.ret a).run S = some a := rfl
@[simp] theorem Q.run_pure (a : α) : (pure a : Q α).run S = some a := rfl
@[simp] theorem Q.run_no : (Q.no : Q α).run S = none := rfl
@[simp] theorem Q.run_get (k : Key) (f : Ent → Q α) : (Q.get k f).run S = (f (S.get k)).run S := rfl
@[simp] theorem Q.run_at (k : Key) : (Q.at_ k).run S = some (S.get k) := rfl
theorem Q.run_bind' (x : Q α) (f : α → Q β) : (x.bind f).run S = (x.run S).bind fun a => (f a).run S := by
  induction x with
  | ret a => rfl
  | get k g ih => simp only [Q.bind, Q.run]; exact ih _
  | cps h nat g ih =>
    simp only [Q.bind, Q.run]
    rw [nat, nat α]
    cases hh : h _ some with
    | none => rfl
    | some b => simp only [Option.bind]; exact ih b
  | no => rfl
@[simp] theorem Q.run_bind (x : Q α) (f : α → Q β) : (x >>= f).run S = (x.run S).bind fun a => (f a).run S := Q.run_bind' S x f
@[simp] theorem Q.run_guard (b : Bool) : (Q.guard b).run S = if b then some () else none := by cases b <;> rfl
@[simp] theorem Q.run_ofO (x : Option α) : (Q.ofO x).run S = x := by cases x <;> rfl
@[simp] theorem Q.run_ask (b : Bool) : (Q.ask b).run S = some b := by cases b <;> rfl
theorem Q.run_asOwn {d y : D} (h : (Q.asOwn d).run S = some y) : y = d := by
  have h' : (qOwn d fun sz rows => some (D.sl .own sz rows)) = some y := h
  unfold qOwn at h'
  split at h'
  · simpa using h'.symm
  · cases h'
@[simp] theorem Q.run_ite (c : Prop) [Decidable c] (x y : Q α) : (if c then x else y).run S = if c then x.run S else y.run S := by split <;> rfl

/-- A reading hangs on the entries that it reads alone. -/
theorem Q.run_congr {S S' : St} (x : Q α) (h : ∀ k ∈ x.reads S, S'.get k = S.get k) : x.run S' = x.run S ∧ x.reads S' = x.reads S := by
  induction x with
  | ret a => exact ⟨rfl, rfl⟩
  | get k f ih =>
    have hk := h k (by simp [Q.reads])
    have := ih (S.get k) (fun k' hk' => h k' (by simp [Q.reads, hk']))
    simp only [Q.run, Q.reads, hk]
    exact ⟨this.1, by rw [this.2]⟩
  | cps c nat f ih =>
    simp only [Q.run, Q.reads] at h ⊢
    rw [nat, nat _ (fun b => (f b).run S), nat (List Key) (fun b => some ((f b).reads S')), nat (List Key) (fun b => some ((f b).reads S))]
    rw [nat (List Key)] at h
    cases hc : c _ some with
    | none => exact ⟨rfl, rfl⟩
    | some b =>
      rw [hc] at h
      have := ih b h
      simp only [Option.bind, Option.getD]
      exact this
  | no => exact ⟨rfl, rfl⟩
end

theorem St.get_put (S : St) (k k' : Key) (e : Ent) : (S.put k e).get k' = if k = k' then e else S.get k' := by
  induction S with
  | nil => simp only [St.put, St.get]
  | cons x t ih =>
    obtain ⟨k0, e0⟩ := x
    simp only [St.put]
    by_cases h0 : k0 = k
    · subst h0; simp only [if_true, St.get]; by_cases h : k0 = k' <;> simp [h]
    · simp only [h0, if_false, St.get, ih]
      by_cases h1 : k0 = k'
      · subst h1; simp [Ne.symm h0]
      · simp [h1]

end Go.Abs
