/- An evaluator of the model's code over plain data, and that what it answers the model does: part 4 of 11. -/
import Derived.Test.YtaifamiafiefkaaGreatDoorAbs0
import Derived.Test.YtaifamiafiefkaaGreatDoorAbs2
set_option linter.unusedVariables false
set_option linter.unusedSimpArgs false
namespace Go.Abs
section
inductive DS where
  | int (k : IntKind)
  | bool
  | str
  | im (sz : Nat)
  | own (sz : Nat)
  | sl (sz : Nat)
  | tg (sz : Nat)
  | bld (t : Nat)
  | fnc (f : Nat) (l : List (Nat × Nat))
  | ptr (i c : Nat)
  | nilp
  | nilf
  | dead
  deriving DecidableEq, Inhabited
abbrev DS.T : DS → Type
  | .int _ => Int
  | .bool => Bool
  | .str => List UInt8
  | .im _ => Bool × List (List D)
  | .own _ => List (List D)
  | .sl _ => Tag × List (List D)
  | .tg _ => Tag × List (List D)
  | .bld _ => Unit
  | .fnc _ _ => Unit
  | .ptr _ _ => Unit
  | .nilp => Unit
  | .nilf => Unit
  | .dead => Unit
abbrev RowT : List DS → Type
  | [] => Unit
  | s :: t => s.T × RowT t
def decD : (s : DS) → D → Option s.T
  | .int k, .int k' n => if k = k' then some n else none
  | .bool, .bool b => some b
  | .str, .str s => some s
  | .im sz, .sl (.im b) sz' rows => if sz = sz' then some (b, rows) else none
  | .own sz, .sl .own sz' rows => if sz = sz' then some rows else none
  | .sl sz, .sl t sz' rows => if sz = sz' then some (t, rows) else none
  | .tg sz, .sl t sz' rows => if sz = sz' then some (t, rows) else none
  | .dead, .dead => some ()
  | _, _ => none
def decRow : (ds : List DS) → List D → Option (RowT ds)
  | [], [] => some ()
  | s :: t, x :: l => match decD s x, decRow t l with
    | some v, some w => some (v, w)
    | _, _ => none
  | _, _ => none
def qTag {R : Type} (t : Tag) (k : Tag → Option R) : Option R := match t with | .im b => k (.im b) | .own => k .own
def encD {R : Type} : (s : DS) → s.T → (D → Option R) → Option R
  | .int k, n, K => K (.int k n)
  | .bool, b, K => K (.bool b)
  | .str, s, K => K (.str s)
  | .im sz, x, K => K (.sl (.im x.1) sz x.2)
  | .own sz, x, K => K (.sl .own sz x)
  | .sl sz, x, K => qTag x.1 fun t => K (.sl t sz x.2)
  | .tg sz, x, K => K (.sl x.1 sz x.2)
  | .bld _, _, K => K .dead
  | .fnc _ _, _, K => K .dead
  | .ptr _ _, _, K => K .dead
  | .nilp, _, K => K .dead
  | .nilf, _, K => K .dead
  | .dead, _, K => K .dead
def encRow {R : Type} : (ds : List DS) → RowT ds → (List D → Option R) → Option R
  | [], _, K => K []
  | s :: t, v, K => encD s v.1 fun x => encRow t v.2 fun l => K (x :: l)
def tRow {R : Type} (ds : List DS) (l : List D) (K : RowT ds → Option R) : Option R := match decRow ds l with | some v => K v | none => none
inductive VS where
  | one (s : DS)
  | ifc
  | agg (ds : List DS)
  deriving DecidableEq, Inhabited
abbrev VS.T : VS → Type
  | .one s => s.T
  | .ifc => Bool
  | .agg ds => RowT ds
inductive RS where
  | val (v : VS) (bs : List (List DS))
  | tup (vs : List VS) (bs : List (List DS))
  deriving DecidableEq, Inhabited
abbrev VSsT : List VS → Type
  | [] => Unit
  | v :: t => v.T × VSsT t
abbrev BoxT : List (List DS) → Type
  | [] => Unit
  | b :: t => RowT b × BoxT t
abbrev RS.T : RS → Type
  | .val v bs => v.T × BoxT bs
  | .tup vs bs => VSsT vs × BoxT bs
def capIs : List (Nat × Nat) → List C → Bool
  | [], [] => true
  | x :: l, .ptr (.e i) g c :: t => Nat.beq x.1 i && (Nat.beq g 0 && (Nat.beq x.2 c && capIs l t))
  | _, _ => false
def capOf : List (Nat × Nat) → List C
  | [] => []
  | x :: l => .ptr (.e x.1) 0 x.2 :: capOf l
def capSh : List C → Option (List (Nat × Nat))
  | [] => some []
  | .ptr (.e i) _ c :: t => match capSh t with
    | some l => some ((i, c) :: l)
    | none => none
  | _ :: _ => none
def decC (s : DS) (c : C) : Option s.T :=
  match c with
  | .d x => decD s x
  | .fn f' [] cap => match s with
    | .fnc f l => match Nat.beq f f', capIs l cap with
      | true, true => some ()
      | _, _ => none
    | _ => none
  | .ptr (.e i') g c' => match s with
    | .ptr i c => match Nat.beq i i', Nat.beq g 0, Nat.beq c c' with
      | true, true, true => some ()
      | _, _, _ => none
    | _ => none
  | .nilp => match s with
    | .nilp => some ()
    | _ => none
  | .nilf => match s with
    | .nilf => some ()
    | _ => none
  | .bld t' => match s with
    | .bld t => if t = t' then some () else none
    | _ => none
  | _ => none
def decCs : (ds : List DS) → List C → Option (RowT ds)
  | [], [] => some ()
  | s :: t, x :: l => match decC s x, decCs t l with
    | some v, some w => some (v, w)
    | _, _ => none
  | _, _ => none
def encC {R : Type} : (s : DS) → s.T → (C → Option R) → Option R
  | .bld t, _, K => K (.bld t)
  | .fnc f l, _, K => K (.fn f [] (capOf l))
  | .ptr i c, _, K => K (.ptr (.e i) 0 c)
  | .nilp, _, K => K .nilp
  | .nilf, _, K => K .nilf
  | .dead, _, K => K (.d .dead)
  | .int k, v, K => K (.d (.int k v))
  | .bool, v, K => K (.d (.bool v))
  | .str, v, K => K (.d (.str v))
  | .im sz, x, K => K (.d (.sl (.im x.1) sz x.2))
  | .own sz, x, K => K (.d (.sl .own sz x))
  | .sl sz, x, K => qTag x.1 fun t => K (.d (.sl t sz x.2))
  | .tg sz, x, K => K (.d (.sl x.1 sz x.2))
def decV : (s : VS) → V → Option s.T
  | .one s, .one c => decC s c
  | .ifc, .one .nili => some true
  | .ifc, .one .ifc => some false
  | .agg ds, .agg cs => match dataL cs with | some l => decRow ds l | none => none
  | _, _ => none
def decVs : (ss : List VS) → List V → Option (VSsT ss)
  | [], [] => some ()
  | s :: t, x :: l => match decV s x, decVs t l with
    | some v, some w => some (v, w)
    | _, _ => none
  | _, _ => none
def encCs {R : Type} : (ds : List DS) → RowT ds → (List C → Option R) → Option R
  | [], _, K => K []
  | s :: t, v, K => encC s v.1 fun x => encCs t v.2 fun l => K (x :: l)
def decBs : (ss : List (List DS)) → List (List C) → Option (BoxT ss)
  | [], [] => some ()
  | s :: t, x :: l => match decCs s x, decBs t l with
    | some v, some w => some (v, w)
    | _, _ => none
  | _, _ => none
def decR : (s : RS) → V × List (List C) → Option s.T
  | .val v bs, (x, out) => match decV v x, decBs bs out with
    | some a, some b => some (a, b)
    | _, _ => none
  | .tup vs bs, (.tup xs, out) => match decVs vs xs, decBs bs out with
    | some a, some b => some (a, b)
    | _, _ => none
  | _, _ => none
def encV {R : Type} : (s : VS) → s.T → (V → Option R) → Option R
  | .one s, x, K => encC s x fun y => K (.one y)
  | .ifc, b, K => qAsk b fun t => match t with | true => K (.one .nili) | false => K (.one .ifc)
  | .agg ds, x, K => encRow ds x fun l => K (.agg (l.map .d))
def encVs {R : Type} : (ss : List VS) → VSsT ss → (List V → Option R) → Option R
  | [], _, K => K []
  | s :: t, x, K => encV s x.1 fun v => encVs t x.2 fun l => K (v :: l)
def encBs {R : Type} : (ss : List (List DS)) → BoxT ss → (List (List C) → Option R) → Option R
  | [], _, K => K []
  | s :: t, x, K => encCs s x.1 fun l => encBs t x.2 fun u => K (l :: u)
def encR {R : Type} : (s : RS) → s.T → (V × List (List C) → Option R) → Option R
  | .val v bs, x, K => encV v x.1 fun a => encBs bs x.2 fun b => K (a, b)
  | .tup vs bs, x, K => encVs vs x.1 fun a => encBs bs x.2 fun b => K (.tup a, b)
def tRes {R : Type} (s : RS) (o : Option (V × List (List C))) (K : s.T → Option R) : Option R :=
  match o with
  | some x => match decR s x with | some v => K v | none => none
  | none => none
theorem decD_enc {R : Type} (s : DS) (v : s.T) (K : D → Option R) : encD s v K = (encD s v some).bind K := by
  cases s <;> simp only [encD, Option.bind]
  case sl sz => obtain ⟨t, rows⟩ := v; cases t <;> rfl
theorem encRow_nat {R : Type} : (ds : List DS) → (v : RowT ds) → (K : List D → Option R) → encRow ds v K = (encRow ds v some).bind K
  | [], _, _ => rfl
  | s :: t, v, K => by
    simp only [encRow]
    rw [decD_enc s v.1, decD_enc s v.1 (fun x => encRow t v.2 fun l => some (x :: l))]
    cases encD s v.1 some with
    | none => rfl
    | some x =>
      simp only [Option.bind]
      rw [encRow_nat t v.2, encRow_nat t v.2 (fun l => some (x :: l))]
      cases encRow t v.2 some <;> rfl
theorem encC_nat {R : Type} (s : DS) (v : s.T) (K : C → Option R) : encC s v K = (encC s v some).bind K := by
  cases s <;> simp only [encC, Option.bind]
  case sl sz => obtain ⟨t, rows⟩ := v; cases t <;> rfl
theorem encV_nat {R : Type} (s : VS) (v : s.T) (K : V → Option R) : encV s v K = (encV s v some).bind K := by
  cases s with
  | one s => simp only [encV]; rw [encC_nat, encC_nat s v (fun y => some (V.one y))]; cases encC s v some <;> rfl
  | ifc => cases v <;> rfl
  | agg ds => simp only [encV]; rw [encRow_nat, encRow_nat ds v (fun l => some (V.agg (l.map .d)))]; cases encRow ds v some <;> rfl
theorem encVs_nat {R : Type} : (ss : List VS) → (v : VSsT ss) → (K : List V → Option R) → encVs ss v K = (encVs ss v some).bind K
  | [], _, _ => rfl
  | s :: t, v, K => by
    simp only [encVs]
    rw [encV_nat s v.1, encV_nat s v.1 (fun x => encVs t v.2 fun l => some (x :: l))]
    cases encV s v.1 some with
    | none => rfl
    | some x =>
      simp only [Option.bind]
      rw [encVs_nat t v.2, encVs_nat t v.2 (fun l => some (x :: l))]
      cases encVs t v.2 some <;> rfl
theorem encCs_nat {R : Type} : (ds : List DS) → (v : RowT ds) → (K : List C → Option R) → encCs ds v K = (encCs ds v some).bind K
  | [], _, _ => rfl
  | s :: t, v, K => by
    simp only [encCs]
    rw [encC_nat s v.1, encC_nat s v.1 (fun x => encCs t v.2 fun l => some (x :: l))]
    cases encC s v.1 some with
    | none => rfl
    | some x =>
      simp only [Option.bind]
      rw [encCs_nat t v.2, encCs_nat t v.2 (fun l => some (x :: l))]
      cases encCs t v.2 some <;> rfl
theorem encBs_nat {R : Type} : (ss : List (List DS)) → (v : BoxT ss) → (K : List (List C) → Option R) → encBs ss v K = (encBs ss v some).bind K
  | [], _, _ => rfl
  | s :: t, v, K => by
    simp only [encBs]
    rw [encCs_nat s v.1, encCs_nat s v.1 (fun l => encBs t v.2 fun u => some (l :: u))]
    cases encCs s v.1 some with
    | none => rfl
    | some x =>
      simp only [Option.bind]
      rw [encBs_nat t v.2, encBs_nat t v.2 (fun u => some (x :: u))]
      cases encBs t v.2 some <;> rfl
theorem encR_nat {R : Type} (s : RS) (v : s.T) (K : V × List (List C) → Option R) : encR s v K = (encR s v some).bind K := by
  cases s with
  | val s bs =>
    simp only [encR]
    rw [encV_nat s v.1, encV_nat s v.1 (fun a => encBs bs v.2 fun b => some (a, b))]
    cases encV s v.1 some with
    | none => rfl
    | some x =>
      simp only [Option.bind]
      rw [encBs_nat, encBs_nat bs v.2 (fun b => some (x, b))]
      cases encBs bs v.2 some <;> rfl
  | tup ss bs =>
    simp only [encR]
    rw [encVs_nat ss v.1, encVs_nat ss v.1 (fun a => encBs bs v.2 fun b => some (V.tup a, b))]
    cases encVs ss v.1 some with
    | none => rfl
    | some x =>
      simp only [Option.bind]
      rw [encBs_nat, encBs_nat bs v.2 (fun b => some (V.tup x, b))]
      cases encBs bs v.2 some <;> rfl
def Q.row (ds : List DS) (l : List D) : Q (List D) :=
  .cps (fun _ k => tRow ds l fun v => encRow ds v k)
    (by intro R k; unfold tRow; cases decRow ds l with | none => rfl | some v => exact encRow_nat ds v k) .ret
def Q.res (s : RS) (o : Option (V × List (List C))) : Q (V × List (List C)) :=
  .cps (fun _ k => tRes s o fun v => encR s v k)
    (by
      intro R k
      unfold tRes
      cases o with
      | none => rfl
      | some x =>
        simp only
        cases decR s x with
        | none => rfl
        | some v => exact encR_nat s v k) .ret
def lkN {α : Type} : List (Nat × α) → Nat → Option α
  | [], _ => none
  | (i, x) :: t, n => match Nat.beq i n with | true => some x | false => lkN t n
def natI (n : Nat) : Int := n
def asI (n : Int) : Option Nat := if 0 ≤ n then some n.toNat else none
def tagI {R : Type} (t : Tag) (f : Bool → Option R) (g : Option R) : Option R := match t with | .im b => f b | .own => g
def rset (R : List (List D)) (i c : Nat) (z : D) : List (List D) := R.set i ((R.getD i []).set c z)
def whole (R : List (List D)) : List (List D) := List.take R.length (List.drop 0 R)
def gd {R : Type} (b : Bool) (x : Option R) : Option R := bif b then x else none
def g63 {R : Type} (n : Nat) (x : Option R) : Option R := bif decide (n ≤ 9223372036854775807) then x else none
def rA {R : Type} (ds : List DS) (c n : Nat) (L : List (List D)) (i : Nat) (K : RowT ds → Option R) : Option R :=
  qOpt L[i]? fun o => bif decide (n ≤ (List.drop c o).length) then tRow ds (List.take n (List.drop c o)) K else none
def cC : (s : DS) → s.T → C
  | .int k, n => .d (.int k n)
  | .bool, b => .d (.bool b)
  | .str, s => .d (.str s)
  | .im sz, x => .d (.sl (.im x.1) sz x.2)
  | .own sz, x => .d (.sl .own sz x)
  | .sl sz, x => .d (.sl x.1 sz x.2)
  | .tg sz, x => .d (.sl x.1 sz x.2)
  | .bld t, _ => .bld t
  | .fnc f l, _ => .fn f [] (capOf l)
  | .ptr i c, _ => .ptr (.e i) 0 c
  | .nilp, _ => .nilp
  | .nilf, _ => .nilf
  | .dead, _ => .d .dead
def bx : (ds : List DS) → RowT ds → List C
  | [], _ => []
  | s :: t, v => cC s v.1 :: bx t v.2
def unbx (ds : List DS) (c : List C) : Option (RowT ds) := decCs ds c
structure Ann where
  row : Nat → Option (List DS)
  res : Nat → Option RS
  imb : Nat → Nat → Bool
  no : Nat → Bool
def shD (im : Bool) : D → Option DS
  | .int k _ => some (.int k)
  | .bool _ => some .bool
  | .str _ => some .str
  | .sl _ sz _ => some (if im then .im sz else .tg sz)
  | .dead => some .dead
def shCs (im : Nat → Bool) : Nat → List C → Option (List DS)
  | _, [] => some []
  | i, .bld k :: t => match shCs (fun _ => false) (i + 1) t with
    | some b => some (.bld k :: b)
    | none => none
  | i, .fn f [] cap :: t => match capSh cap, shCs im (i + 1) t with
    | some l, some b => some (.fnc f l :: b)
    | _, _ => none
  | i, .ptr (.e j) _ c :: t => match shCs im (i + 1) t with
    | some b => some (.ptr j c :: b)
    | none => none
  | i, .nilp :: t => match shCs im (i + 1) t with
    | some b => some (.nilp :: b)
    | none => none
  | i, .nilf :: t => match shCs im (i + 1) t with
    | some b => some (.nilf :: b)
    | none => none
  | i, .d x :: t => match shD (im i) x, shCs im (i + 1) t with
    | some a, some b => some (a :: b)
    | _, _ => none
  | _, _ :: _ => none
def shBs (imb : Nat → Nat → Bool) : List (List C) → Option (List (List DS))
  | [] => some []
  | b :: t => match shCs (imb b.length) 0 b, shBs imb t with
    | some x, some y => some (x :: y)
    | _, _ => none
def RS.withBs : RS → List (List DS) → RS
  | .val v _, bs => .val v bs
  | .tup vs _, bs => .tup vs bs
def rowA (an : Ann) (dst : Nat) (l : List D) : Q (List D) :=
  match an.row dst with
  | some ds => Q.row ds l
  | none => pure l
def RS.boxes : RS → List (List DS)
  | .val _ bs => bs
  | .tup _ bs => bs
def resA (an : Ann) (f : Nat) (bs : List (List C)) (o : Option (V × List (List C))) : Q (V × List (List C)) :=
  match an.no f with
  | true => Q.no
  | false => match an.res f with
    | some s => match s.boxes with
      | _ :: _ => Q.res s o
      | [] => match shBs an.imb bs with
        | some b => Q.res (s.withBs b) o
        | none => Q.ofO o
    | none => Q.ofO o
def callA (an : Ann) (Cl : Oracle) (dst : Nat) (f : Nat) (vs : List V) (ws : List Wr) : Q (V × List Wr) := do
  liveAll ws (vPtrs vs)
  let (rs, bs) ← gather ws 40 (addPtrs [] (vPtrs vs)) 0
  let vs' ← Q.ofO (inVs rs vs)
  let bs' ← Q.ofO (inBs rs bs)
  let (r, out) ← resA an f bs' (Cl f vs' bs')
  if rs.isEmpty && r.flat && out.isEmpty then pure (r, [])
  else do
    let gs ← gensOf rs
    if out.length = rs.length then do
      let r' ← Q.ofO (r.outV gs)
      let bs2 ← Q.ofO (outBs gs out)
      Q.guard (lensEq bs2 bs)
      pure (r', boxWrs rs bs2 bs ws)
    else do
      let e ← atP ws (.r (.l dst))
      let gs' := gs ++ [(.l dst, e.g + 1)]
      let r' ← Q.ofO (r.outV gs')
      let bs2 ← Q.ofO (outBs gs' out)
      let nb := bs2.getD rs.length []
      Q.guard (out.length == rs.length + 1 && lensEq (bs2.take rs.length) bs && (boxN e.v == 0 || boxN e.v == nb.length) && !rs.contains (.l dst))
      pure (r', cellWrs (.l dst) 0 nb ({ k := .r (.l dst), v := sizeV nb.length } :: boxWrs rs bs2 bs ws))
def binA (tc : TC) (op : BinOp) (x y : V) : Q D :=
  match x, y with
  | .one (.d (.int k a)), .one (.d (.int k' b)) =>
    match op with
    | .quo => do Q.guard (decide (k = k') && !decide (b = 0)); pure (.int k (k.wrap (a.tdiv b)))
    | .rem => do Q.guard (decide (k = k') && !decide (b = 0)); pure (.int k (a.tmod b))
    | .shl => do Q.guard (!decide (b < 0)); pure (.int k (k.wrap (a * 2 ^ (Min.min b.toNat k.bits))))
    | .shr => do Q.guard (!decide (b < 0)); pure (.int k (a.fdiv (2 ^ (Min.min b.toNat k.bits))))
    | _ => Q.ofO (binV tc op x y)
  | .one (.d (.str a)), .one (.d (.str b)) =>
    match op with
    | .add => do Q.guard (decide (a.length + b.length ≤ 9223372036854775807)); pure (.str (a ++ b))
    | _ => Q.ofO (binV tc op x y)
  | _, _ => Q.ofO (binV tc op x y)
def appToA (sz bytes : Nat) (v : V) (ws : List Wr) (src : List (List D)) : Q (V × List Wr) :=
  match v with
  | .one (.d (.sl (.im b) sz' _)) => do
    Q.guard (u8ok bytes src false && (b && sz' == sz && decide (src.length * bytes ≤ 140737488355328)))
    let e ← Q.ask src.isEmpty
    pure (.one (.d (.sl (if e then .im true else .own) sz src)), ws)
  | v => appTo sz bytes v ws src
def elWrsA (pl : Place) (i : Nat) : V → Nat → List D → List D → D → List Wr → List Wr
  | v, c, z :: t, o :: os, x, ws =>
    elWrsA pl i (v.setCell pl.j (.d (setD x (pl.p ++ [(i, c)]) z))) (c + 1) t os (setD x (pl.p ++ [(i, c)]) z)
      ({ k := pl.k, v := v.setCell pl.j (.d (setD x (pl.p ++ [(i, c)]) z)), keep := o.flat && z.flat } :: { k := .a pl.k, v := V.dead } :: ws)
  | _, _, _, _, _, ws => ws
def stMvA (ws : List Wr) (P : Place) : C → Q (C × List Wr)
  | .view pl g sz off len =>
    match !(pl.k == P.k) && pl.k.mine with
    | true => do
      let (e, x, rows) ← ownAt ws pl g sz
      Q.guard (off == 0 && len == rows.length && !rows.isEmpty)
      pure (.d (.sl .own sz rows), setWr ws pl.k (killAt e.v pl x))
    | false => stMv ws P (.view pl g sz off len)
  | c => stMv ws P c
def putCellA (mv : Bool) (ws : List Wr) (P : Place) (y : C) : Q (C × List Wr) := if mv then stMvA ws P y else stAt ws P y
def putCellsA (mv : Bool) (r : Root) (ws : List Wr) : Nat → List C → Q (List C × List Wr)
  | _, [] => pure ([], ws)
  | c, y :: t => do
    let (y', ws) ← putCellA mv ws ⟨.b r c, 0, []⟩ y
    let (ys, ws) ← putCellsA mv r ws (c + 1) t
    pure (y' :: ys, ws)
def slotOf : X → Nat
  | .s i => i
  | .t i => i
  | _ => 0
def evOpA (an : Ann) (Cl : Oracle) (dst : Nat) : IOp → Q (V × List Wr)
  | .pick c a b => do
    let v ← rd c
    match v with
    | .one (.d (.bool t)) => do
      let t ← Q.ask t
      let r ← rd (if t then a else b)
      pure (r, [])
    | _ => Q.no
  | .load n agg x => do
    let v ← rd x
    match v with
    | .one (.ptr r g c) => do
      let e ← Q.at_ (.r r)
      Q.guard (!r.isG && e.g == g && decide (c + n ≤ boxN e.v))
      let cs ← readCells r c n
      let r' ← mkV agg cs
      pure (r', [])
    | .one (.pp cells) => do
      Q.guard (decide (n ≤ cells.length))
      let l ← rowA an dst (cells.take n)
      let r' ← mkV agg (l.map .d)
      pure (r', [])
    | .one (.eptr pl g sz i c) => do
      let (_, _, rows) ← ownAt [] pl g sz
      let row ← Q.ofO rows[i]?
      Q.guard (decide (c + n ≤ row.length))
      let l ← rowA an dst ((row.drop c).take n)
      let r' ← mkV agg (lookRow pl g i c l)
      pure (r', [])
    | .one (.fn t f l) => do
      let l ← Q.ofO (fnsOf (fnsTag + 1) (.fn t f l))
      Q.guard (l.length == n)
      let r' ← mkV agg l
      pure (r', [])
    | _ => Q.no
  | .store mv n x v => do
    let p ← rd x
    let (vv, ws) ← tk [] v
    Q.guard (vv.cells.length == n)
    match p with
    | .one (.ptr r g c) => do
      let (cs, ws) ← putCellsA mv r ws c vv.cells
      let e ← atP ws (.r r)
      Q.guard (!r.isG && e.g == g && decide (c + n ≤ boxN e.v))
      pure (.tup [], cellWrs r c cs ws)
    | .one (.eptr pl g sz i c) => do
      let (zs, ws) ← fitRow pl i ws c vv.cells
      let (e, x0, rows) ← ownAt ws pl g sz
      let row ← Q.ofO rows[i]?
      Q.guard (decide (c + n ≤ row.length) && zs.length == n)
      let old ← rowA an (slotOf x) ((row.drop c).take n)
      Q.guard (old.length == n && u8sts zs old)
      pure (.tup [], elWrsA pl i e.v c zs old x0 ws)
    | _ => Q.no
  | .bin tc op x y => do
    let a ← rd x
    let b ← rd y
    let r ← binA tc op a b
    pure (.one (.d r), [])
  | .app sz bytes x y => do
    let (a, ws) ← tk [] y
    let (src, ws) ← rowsOf sz ws a
    let (v, ws) ← tk ws x
    appToA sz bytes v ws src
  | .appS x y => do
    let a ← rd y
    match a with
    | .one (.d (.str s)) => do
      let (v, ws) ← tk [] x
      appToA 1 1 v ws (D.strB s)
    | _ => Q.no
  | .call f args => do
    let vf ← rd f
    match vf with
    | .one (.fn n first cap) => do
      Q.guard (isFn n)
      let (vs, ws) ← rdArgs [] args
      callA an Cl dst n (first.map .one ++ vs ++ cap.map .one) ws
    | _ => Q.no
  | op => evOp Cl dst op
def fNat {R : Type} : Nat → Nat → Nat → (Nat → Option R) → Option R
  | 0, _, _, _ => none
  | f + 1, i, g, K => match Nat.beq g i with | true => K i | false => fNat f (i + 1) g K
def fN {R : Type} (g : Nat) (K : Nat → Option R) : Option R := fNat 400 0 g K
def fRoot {R : Type} : Root → (Root → Option R) → Option R
  | .e i, K => K (.e i)
  | .l i, K => K (.l i)
  | .g i, K => K (.g i)
def fKey {R : Type} : Key → (Key → Option R) → Option R
  | .s i, K => K (.s i)
  | .b r c, K => fRoot r fun r => fN c fun c => K (.b r c)
  | .r r, K => fRoot r fun r => K (.r r)
  | .h i, K => K (.h i)
  | .a k, K => fKey k fun k => K (.a k)
def fD {R : Type} : D → (D → Option R) → Option R
  | .int k n, K => K (.int k n)
  | .bool b, K => K (.bool b)
  | .str s, K => K (.str s)
  | .sl t sz rows, K => K (.sl t sz rows)
  | .dead, K => K .dead
def fC {R : Type} : C → (C → Option R) → Option R
  | .d x, K => fD x fun x => K (.d x)
  | .ptr r g c, K => fRoot r fun r => fN g fun g => fN c fun c => K (.ptr r g c)
  | .eptr pl g sz i c, K => fN g fun g => fN c fun c => K (.eptr pl g sz i c)
  | .view pl g sz off len, K => fN g fun g => K (.view pl g sz off len)
  | .appd pl g a sz rows, K => fN g fun g => fN a fun a => K (.appd pl g a sz rows)
  | .pp cells, K => K (.pp cells)
  | .fn f a b, K => K (.fn f a b)
  | .nilp, K => K .nilp
  | .nilf, K => K .nilf
  | .nili, K => K .nili
  | .ifc, K => K .ifc
  | .bld t, K => K (.bld t)
  | .mp x, K => fD x fun x => K (.mp x)
  | .mref i g, K => fN g fun g => K (.mref i g)
  | .dead, K => K .dead
def fCs {R : Type} : List C → (List C → Option R) → Option R
  | [], K => K []
  | c :: t, K => fC c fun c => fCs t fun t => K (c :: t)
def fVt {R : Type} : List V → (List V → Option R) → Option R
  | [], K => K []
  | .one c :: t, K => fC c fun c => fVt t fun t => K (.one c :: t)
  | .agg cs :: t, K => fCs cs fun cs => fVt t fun t => K (.agg cs :: t)
  | .tup vs :: t, K => fVt t fun t => K (.tup vs :: t)
def fV {R : Type} : V → (V → Option R) → Option R
  | .one c, K => fC c fun c => K (.one c)
  | .agg cs, K => fCs cs fun cs => K (.agg cs)
  | .tup vs, K => fVt vs fun vs => K (.tup vs)
def fBs {R : Type} : List (List C) → (List (List C) → Option R) → Option R
  | [], K => K []
  | c :: t, K => fCs c fun c => fBs t fun t => K (c :: t)
def fKeep {R : Type} : Bool → (Bool → Option R) → Option R
  | true, K => K true
  | false, K => K false
def fWs {R : Type} : List Wr → (List Wr → Option R) → Option R
  | [], K => K []
  | ⟨k, v, b⟩ :: t, K => fKey k fun k => fV v fun v => fKeep b fun b => fWs t fun t => K (⟨k, v, b⟩ :: t)
def fSt {R : Type} : St → (St → Option R) → Option R
  | [], K => K []
  | (k, ⟨v, g⟩) :: t, K => fKey k fun k => fV v fun v => fN g fun g => fSt t fun t => K ((k, ⟨v, g⟩) :: t)
def fSpine {R : Type} : St → (St → Option R) → Option R
  | [], K => K []
  | (k, ⟨v, g⟩) :: t, K => fN g fun g => fSpine t fun t => K ((k, ⟨v, g⟩) :: t)
def runK {α R : Type} (S : St) : Q α → List Key → (α → List Key → Option R) → Option R
  | .ret a, rs, K => K a rs
  | .get k f, rs, K => runK S (f (S.get k)) (k :: rs) K
  | .cps h _ f, rs, K => h R fun b => runK S (f b) rs K
  | .no, _, _ => none
def withGuard {R : Type} (S : St) (g : Option (Nat × Bool)) (K : Bool → St → List Key → Option R) : Option R :=
  match g with
  | none => K true S []
  | some (t, b) => match S.get (.s t) with
    | ⟨.one (.d (.bool x)), c⟩ => qAsk x fun x' => K (x' == b) (S.put (.s t) ⟨.one (.d (.bool x')), c⟩) [.s t]
    | ⟨.tup [], _⟩ => K false S [.s t]
    | _ => none
def expoCells {R : Type} (r : Root) : Nat → Nat → St → (St → Option R) → Option R
  | 0, _, S, K => K S
  | n + 1, c, S, K => match S.get (.b r c) with
    | ⟨.one (.d (.sl t sz rows)), g⟩ => qTag t fun t' => expoCells r n (c + 1) (S.put (.b r c) ⟨.one (.d (.sl t' sz rows)), g⟩) K
    | _ => expoCells r n (c + 1) S K
def expoV {R : Type} (n : Nat) (v : V) (S : St) (K : St → Option R) : Option R :=
  match v with
  | .one (.ptr r _ c) => expoCells r n c S K
  | _ => K S
def expoOp {R : Type} (op : IOp) (S : St) (K : St → Option R) : Option R :=
  match op with
  | .load n _ (.s i) => expoV n (S.get (.s i)).v S K
  | .load n _ (.t i) => expoV n (S.get (.s i)).v S K
  | _ => K S
def expoRes {R : Type} : List RV → St → (St → Option R) → Option R
  | [], S, K => K S
  | .cell t n _ :: l, S, K => expoV n (S.get (.s t)).v S fun S => expoRes l S K
  | .slot _ :: l, S, K => expoRes l S K
def evOperA {R : Type} (an : Ann) (Cl : Oracle) (o : IOper) (S : St) (K : St → List Key → List Wr → Option R) : Option R :=
  withGuard S o.guard fun want S rs =>
    match want with
    | true => expoOp o.op S fun S => runK S (evOpA an Cl (o.dst.getD 0) o.op) rs fun x rs =>
      match o.dst with
      | some d => K S rs ({ k := .s d, v := x.1 } :: x.2)
      | none => K S rs x.2
    | false => match o.dst with
      | some d => K S rs [{ k := .s d, v := .tup [] }]
      | none => K S rs []
def evOpsA {R : Type} (an : Ann) (Cl : Oracle) : List IOper → St → (St → Option R) → Option R
  | [], S, K => K S
  | o :: t, S, K => evOperA an Cl o S fun S _ ws => fWs ws fun ws => fSpine (S.wrs ws) fun S => evOpsA an Cl t S K
def evOpsFA {R : Type} (an : Ann) (Cl : Oracle) : List IOper → St → List Foot → (St → List Foot → Option R) → Option R
  | [], S, fs, K => K S fs.reverse
  | o :: t, S, fs, K => evOperA an Cl o S fun S rs ws => fWs ws fun ws => fSpine (S.wrs ws) fun S => evOpsFA an Cl t S (⟨rs.reverse, ws.map (·.k)⟩ :: fs) K
def St.prep (keep : Option (List Nat)) (gc : Bool) (S : St) : Option St :=
  (match keep with | some l => S.norm l | none => some S).bind fun S1 => if gc then S1.gc else some S1
def drawA {R : Type} (an : Ann) (Cl : Oracle) (ops : List IOper) (draw : Option (List (Nat × Nat))) (S : St) (K : St → Option R) : Option R :=
  match draw with
  | none => evOpsA an Cl ops S K
  | some [] => evOpsA an Cl ops S K
  | some ps => evOpsFA an Cl ops S [] fun S' fs => match pairsOk fs ps with | true => K S' | false => none
inductive KCode where
  | skip
  | reg (keep : Option (List Nat)) (gc : Bool) (ops : List IOper) (draw : Option (List (Nat × Nat)))
  | seq (a b : KCode)
  | cond (c : X) (a b : KCode)
  | block (id : Nat) (body : KCode)
  | loop (id : Nat) (keep : Option (List Nat)) (gc : Bool) (body : KCode)
  | join (id : Nat) (keep : Option (List Nat)) (gc : Bool) (a b : KCode)
  | exit (id : Nat)
  | ret
  deriving Inhabited
def addHead (keep : Option (List Nat)) (gc : Bool) : ICode → ICode
  | .reg _ _ ops draw => .reg keep gc ops draw
  | .seq a b => .seq (addHead keep gc a) b
  | .block id b => .block id (addHead keep gc b)
  | c => c
def KCode.headOk : KCode → Bool
  | .reg none false _ _ => true
  | .seq a _ => a.headOk
  | .join _ _ _ a _ => a.headOk
  | .block _ b => b.headOk
  | _ => false
def ofK : KCode → ICode
  | .skip => .skip
  | .reg keep gc ops draw => .reg keep gc ops draw
  | .seq a b => .seq (ofK a) (ofK b)
  | .cond c a b => .cond c (ofK a) (ofK b)
  | .block id b => .block id (ofK b)
  | .loop _ keep gc b => .loop (addHead keep gc (ofK b))
  | .join _ keep gc a b => .seq (ofK a) (addHead keep gc (ofK b))
  | .exit id => .exit id
  | .ret => .ret
abbrev Kont (R : Type) := IExit → St → Option R
def seqK {R : Type} (f : St → Kont R → Option R) (K : Kont R) : Kont R := fun e S =>
  match e with
  | .norm => f S K
  | .exit i => K (.exit i) S
  | .ret => K .ret S
def blockK {R : Type} (id : Nat) (K : Kont R) : Kont R := fun e S =>
  match e with
  | .norm => K .norm S
  | .exit i => match Nat.beq i id with | true => K .norm S | false => K (.exit i) S
  | .ret => K .ret S
def nextK {R : Type} (keep : Option (List Nat)) (gc : Bool) (next : St → Option R) (K : Kont R) : Kont R := fun e S =>
  match e with
  | .norm => match S.prep keep gc with | some S1 => fSt S1 next | none => none
  | .exit i => K (.exit i) S
  | .ret => K .ret S
def iterK {R : Type} (id : Nat) (f : St → Kont R → Option R) (keep : Option (List Nat)) (gc : Bool) : Nat → St → Kont R → Option R
  | 0, _, _ => none
  | m + 1, S, K => f S (nextK keep gc (fun S1 => iterK id f keep gc m S1 K) K)
def jumpK {R : Type} (id : Nat) (f : St → Kont R → Option R) : Nat → St → Kont R → Option R
  | 0, _, _ => none
  | _ + 1, S, K => f S K
def joinK {R : Type} (id : Nat) (keep : Option (List Nat)) (gc : Bool) (m : Nat) (f : St → Kont R → Option R) : St → Kont R → Option R := fun S K =>
  match S.prep keep gc with
  | some S1 => fSt S1 fun S1 => jumpK id f m S1 K
  | none => none
def condA {R : Type} (S : St) (c : X) (K : Bool → St → Option R) : Option R :=
  match c with
  | .s i => match S.get (.s i) with
    | ⟨.one (.d (.bool b)), g⟩ => qAsk b fun t => K t (S.put (.s i) ⟨.one (.d (.bool t)), g⟩)
    | _ => none
  | c => runK S (rd c) [] fun v _ => match v with
    | .one (.d (.bool b)) => qAsk b fun t => K t S
    | _ => none
def evCA {R : Type} (an : Ann) (Cl : Oracle) (n : Nat) : KCode → St → Kont R → Option R
  | .skip, S, K => K .norm S
  | .reg keep gc ops draw, S, K => match S.prep keep gc with
    | some S1 => fSt S1 fun S1 => drawA an Cl ops draw S1 fun S' => K .norm S'
    | none => none
  | .seq a b, S, K => evCA an Cl n a S (seqK (evCA an Cl n b) K)
  | .cond c a b, S, K => condA S c fun t S => match t with
    | true => evCA an Cl n a S K
    | false => evCA an Cl n b S K
  | .block id b, S, K => evCA an Cl n b S (blockK id K)
  | .loop id keep gc b, S, K => match b.headOk with
    | true => match S.prep keep gc with
      | some S1 => fSt S1 fun S1 => iterK id (evCA an Cl n b) keep gc n S1 K
      | none => none
    | false => none
  | .join id keep gc a b, S, K => match b.headOk with
    | true => evCA an Cl n a S (seqK (joinK id keep gc n (evCA an Cl n b)) K)
    | false => none
  | .exit id, S, K => K (.exit id) S
  | .ret, S, K => K .ret S
structure KFunc where
  nslots : Nat
  results : List RV
  body : KCode
  forget : Bool
  deriving Inhabited
def KFunc.fn (k : KFunc) : IFunc := ⟨k.nslots, k.results, ofK k.body, k.forget⟩
def retK (results : List RV) (forget : Bool) (bx : List (List C)) : Kont (V × List (List C)) := fun e S =>
  match e with
  | .exit _ => none
  | _ => expoRes results S fun S => runK S (evRet ⟨0, results, .skip, forget⟩ bx) [] fun x _ => fV x.1 fun v => fBs x.2 fun b => some (v, b)
def evBodyA (an : Ann) (Cl : Oracle) (n : Nat) (fn : KFunc) (args : List V) (bx : List (List C)) : Option (V × List (List C)) :=
  match Nat.ble args.length fn.nslots with
  | true => evCA an Cl n fn.body (argEnts 0 args ++ boxesEnts 0 bx) (retK fn.results fn.forget bx)
  | false => none
end
section
theorem runK_eq {α R : Type} (S : St) (q : Q α) : ∀ (rs : List Key) (K : α → List Key → Option R), runK S q rs K = match q.run S with | some a => K a ((q.reads S).reverse ++ rs) | none => none := by
  induction q with
  | ret a => intro rs K; rfl
  | get k f ih =>
    intro rs K
    simp only [runK, Q.run, Q.reads, ih, List.reverse_cons, List.append_assoc, List.cons_append, List.nil_append]
  | cps h nat f ih =>
    intro rs K
    simp only [runK, Q.run, Q.reads]
    rw [nat, nat α, nat (List Key)]
    cases h _ some with
    | none => rfl
    | some b => simp only [Option.bind, Option.getD]; exact ih b rs K
  | no => intro rs K; rfl
theorem Q.reads_bind {α β : Type} (S : St) (x : Q α) (f : α → Q β) : (x >>= f).reads S = x.reads S ++ (match x.run S with | some a => (f a).reads S | none => []) := by
  show (x.bind f).reads S = _
  induction x with
  | ret a => rfl
  | get k g ih => simp only [Q.bind, Q.reads, Q.run]; rw [ih]; rfl
  | cps h nat g ih =>
    simp only [Q.bind, Q.reads, Q.run]
    rw [nat, nat _ (fun b => some ((g b).reads S)), nat α]
    cases h _ some with
    | none => rfl
    | some b => simp only [Option.bind, Option.getD]; exact ih b
  | no => rfl
def Q.le {α : Type} (p q : Q α) : Prop := ∀ S x, p.run S = some x → q.run S = some x ∧ p.reads S = q.reads S
theorem Q.le.refl {α : Type} (p : Q α) : p.le p := fun _ _ h => ⟨h, rfl⟩
theorem Q.le.bind {α β : Type} {p q : Q α} {f g : α → Q β} (h : p.le q) (hf : ∀ a, (f a).le (g a)) : (p >>= f).le (q >>= g) := by
  intro S x hx
  rw [Q.run_bind] at hx
  cases hp : p.run S with
  | none => simp [hp] at hx
  | some a =>
    simp only [hp, Option.bind] at hx
    obtain ⟨h1, h2⟩ := h S a hp
    obtain ⟨h3, h4⟩ := hf a S x hx
    refine ⟨by rw [Q.run_bind, h1]; exact h3, ?_⟩
    rw [Q.reads_bind, Q.reads_bind, hp, h1, h2]
    simp only [h4]
theorem Q.le.bindr {α β : Type} {p : Q α} {f g : α → Q β} (hf : ∀ a, (f a).le (g a)) : (p >>= f).le (p >>= g) := (Q.le.refl p).bind hf
theorem Q.le.no {α : Type} (q : Q α) : (Q.no : Q α).le q := by intro S x h; cases h
theorem Q.le.of_run {α : Type} {p q : Q α} (h : ∀ S x, p.run S = some x → q.run S = some x) (hp : ∀ S, p.reads S = []) (hq : ∀ S, q.reads S = []) : p.le q :=
  fun S x hx => ⟨h S x hx, by rw [hp, hq]⟩
theorem decD_inv : ∀ (s : DS) (x : D) (v : s.T), decD s x = some v → encD s v some = some x := by
  intro s x v h
  cases s <;> cases x <;> simp only [decD] at h <;> try cases h
  · split at h <;> cases h; rename_i hk; subst hk; rfl
  · rfl
  · rfl
  · rename_i t sz' rows
    cases t <;> simp only at h
    · split at h <;> cases h; rename_i hk; subst hk; rfl
    · cases h
  · rename_i t sz' rows
    cases t <;> simp only at h
    · cases h
    · split at h <;> cases h; rename_i hk; subst hk; rfl
  · rename_i t sz' rows
    split at h <;> cases h; rename_i hk; subst hk
    cases t <;> rfl
  · rename_i t sz' rows
    split at h <;> cases h; rename_i hk; subst hk
    rfl
  · rfl
theorem decRow_inv : ∀ (ds : List DS) (l : List D) (v : RowT ds), decRow ds l = some v → encRow ds v some = some l
  | [], [], v, _ => rfl
  | [], x :: l, v, h => by cases h
  | s :: t, [], v, h => by cases h
  | s :: t, x :: l, v, h => by
    simp only [decRow] at h
    cases h1 : decD s x with
    | none => simp [h1] at h
    | some a =>
      cases h2 : decRow t l with
      | none => simp [h1, h2] at h
      | some b =>
        simp only [h1, h2, Option.some.injEq] at h
        subst h
        simp only [encRow]
        rw [decD_enc, decD_inv s x a h1]
        simp only [Option.bind]
        rw [encRow_nat, decRow_inv t l b h2]
        rfl
theorem dataL_invK : ∀ {cs : List C} {l : List D}, dataL cs = some l → cs = l.map .d
  | [], l, h => by cases h; rfl
  | c :: t, l, h => by
    cases c <;> simp only [dataL] at h <;> try cases h
    rename_i x
    cases h1 : dataL t with
    | none => simp [h1] at h
    | some l1 => simp [h1] at h; subst h; simp [dataL_invK h1]
theorem decD_cC : ∀ (s : DS) (x : D) (v : s.T), decD s x = some v → C.d x = cC s v := by
  intro s x v h
  cases s with
  | int k =>
    cases x with
    | int k' n =>
      simp only [decD] at h
      split at h
      · rename_i he; simp only [Option.some.injEq] at h; subst h; subst he; rfl
      · cases h
    | _ => cases h
  | bool =>
    cases x with
    | bool b => simp only [decD, Option.some.injEq] at h; subst h; rfl
    | _ => cases h
  | str =>
    cases x with
    | str b => simp only [decD, Option.some.injEq] at h; subst h; rfl
    | _ => cases h
  | im sz =>
    cases x with
    | sl t sz' rows =>
      cases t with
      | im b =>
        simp only [decD] at h
        split at h
        · rename_i he; simp only [Option.some.injEq] at h; subst h; subst he; rfl
        · cases h
      | own => cases h
    | _ => cases h
  | own sz =>
    cases x with
    | sl t sz' rows =>
      cases t with
      | im b => cases h
      | own =>
        simp only [decD] at h
        split at h
        · rename_i he; simp only [Option.some.injEq] at h; subst h; subst he; rfl
        · cases h
    | _ => cases h
  | sl sz =>
    cases x with
    | sl t sz' rows =>
      simp only [decD] at h
      split at h
      · rename_i he; simp only [Option.some.injEq] at h; subst h; subst he; rfl
      · cases h
    | _ => cases h
  | tg sz =>
    cases x with
    | sl t sz' rows =>
      simp only [decD] at h
      split at h
      · rename_i he; simp only [Option.some.injEq] at h; subst h; subst he; rfl
      · cases h
    | _ => cases h
  | bld t => cases x <;> cases h
  | fnc f l => cases x <;> cases h
  | ptr i c => cases x <;> cases h
  | nilp => cases x <;> cases h
  | nilf => cases x <;> cases h
  | dead =>
    cases x with
    | dead => rfl
    | _ => cases h
theorem capIs_of : ∀ {l : List (Nat × Nat)} {cap : List C}, capIs l cap = true → cap = capOf l
  | [], [], _ => rfl
  | [], _ :: _, h => by cases h
  | _ :: _, [], h => by cases h
  | x :: l, c :: t, h => by
    unfold capIs at h
    split at h
    · rename_i heq _; cases heq
    · rename_i i g c' t' h1 h2
      simp only [List.cons.injEq] at h1 h2
      obtain ⟨rfl, rfl⟩ := h1
      obtain ⟨rfl, rfl⟩ := h2
      simp only [Bool.and_eq_true] at h
      obtain ⟨h1, h2, h3, h4⟩ := h
      rw [← Nat.eq_of_beq_eq_true h1, Nat.eq_of_beq_eq_true h2, ← Nat.eq_of_beq_eq_true h3, capIs_of h4]
      rfl
    · cases h
theorem capOf_is : ∀ (l : List (Nat × Nat)), capIs l (capOf l) = true
  | [] => rfl
  | x :: l => by simp [capOf, capIs, capOf_is l]
theorem decC_cC (s : DS) (x : C) (v : s.T) (h : decC s x = some v) : x = cC s v := by
  unfold decC at h
  split at h
  · exact decD_cC s _ v h
  · split at h
    · split at h
      · rename_i h1 h2
        rw [← Nat.eq_of_beq_eq_true h1, capIs_of h2]
        rfl
      · cases h
    · cases h
  · split at h
    · split at h
      · rename_i h1 h2 h3
        rw [← Nat.eq_of_beq_eq_true h1, Nat.eq_of_beq_eq_true h2, ← Nat.eq_of_beq_eq_true h3]
        rfl
      · cases h
    · cases h
  · split at h
    · rfl
    · cases h
  · split at h
    · rfl
    · cases h
  · split at h
    · split at h
      · rename_i he; subst he; rfl
      · cases h
    · cases h
  · cases h
theorem cC_decC (s : DS) (v : s.T) : decC s (cC s v) = some v := by
  cases s <;> simp [cC, decC, decD, capOf_is]
theorem encC_cC (s : DS) (v : s.T) : encC s v some = some (cC s v) := by
  cases s <;> try rfl
  case sl sz => obtain ⟨t, rows⟩ := v; cases t <;> rfl
theorem decCs_bx : ∀ (ds : List DS) (l : List C) (v : RowT ds), decCs ds l = some v → l = bx ds v
  | [], [], _, _ => rfl
  | [], _ :: _, _, h => by cases h
  | _ :: _, [], _, h => by cases h
  | s :: t, x :: l, v, h => by
    simp only [decCs] at h
    split at h
    · rename_i a b h1 h2
      simp only [Option.some.injEq] at h
      subst h
      simp only [bx]
      rw [← decC_cC s x a h1, ← decCs_bx t l b h2]
    · cases h
theorem encCs_bx : ∀ (ds : List DS) (v : RowT ds), encCs ds v some = some (bx ds v)
  | [], _ => rfl
  | s :: t, v => by
    simp only [encCs]
    rw [encC_nat, encC_cC]
    simp only [Option.bind]
    rw [encCs_nat, encCs_bx t v.2]
    rfl
theorem decV_inv (s : VS) (x : V) (v : s.T) (h : decV s x = some v) : encV s v some = some x := by
  cases s with
  | one s =>
    cases x with
    | one c =>
      simp only [decV] at h
      simp only [encV]
      rw [encC_nat, encC_cC, decC_cC s c v h]
      rfl
    | agg cs => cases h
    | tup vs => cases h
  | ifc =>
    cases x with
    | one c => cases c <;> simp only [decV] at h <;> cases h <;> rfl
    | agg cs => cases h
    | tup vs => cases h
  | agg ds =>
    cases x with
    | agg cs =>
      simp only [decV] at h
      cases h1 : dataL cs with
      | none => simp [h1] at h
      | some l =>
        simp only [h1] at h
        simp only [encV]
        rw [encRow_nat, decRow_inv ds l v h, dataL_invK h1]
        rfl
    | one c => cases h
    | tup vs => cases h
theorem decVs_inv : ∀ (ss : List VS) (l : List V) (v : VSsT ss), decVs ss l = some v → encVs ss v some = some l
  | [], [], v, _ => rfl
  | [], x :: l, v, h => by cases h
  | s :: t, [], v, h => by cases h
  | s :: t, x :: l, v, h => by
    simp only [decVs] at h
    cases h1 : decV s x with
    | none => simp [h1] at h
    | some a =>
      cases h2 : decVs t l with
      | none => simp [h1, h2] at h
      | some b =>
        simp only [h1, h2, Option.some.injEq] at h
        subst h
        simp only [encVs]
        rw [encV_nat, decV_inv s x a h1]
        simp only [Option.bind]
        rw [encVs_nat, decVs_inv t l b h2]
        rfl
theorem decBs_inv : ∀ (ss : List (List DS)) (l : List (List C)) (v : BoxT ss), decBs ss l = some v → encBs ss v some = some l
  | [], [], v, _ => rfl
  | [], x :: l, v, h => by cases h
  | s :: t, [], v, h => by cases h
  | s :: t, x :: l, v, h => by
    simp only [decBs] at h
    cases h1 : decCs s x with
    | none => simp [h1] at h
    | some a =>
      cases h2 : decBs t l with
      | none => simp [h1, h2] at h
      | some b =>
        simp only [h1, h2, Option.some.injEq] at h
        subst h
        simp only [encBs]
        rw [encCs_nat, encCs_bx]
        simp only [Option.bind]
        rw [encBs_nat, decBs_inv t l b h2, ← decCs_bx s x a h1]
        rfl
theorem decR_inv (s : RS) (x : V × List (List C)) (v : s.T) (h : decR s x = some v) : encR s v some = some x := by
  obtain ⟨x, out⟩ := x
  cases s with
  | val s bs =>
    simp only [decR] at h
    cases h1 : decV s x with
    | none => simp [h1] at h
    | some a =>
      cases h2 : decBs bs out with
      | none => simp [h1, h2] at h
      | some b =>
        simp only [h1, h2, Option.some.injEq] at h
        subst h
        simp only [encR]
        rw [encV_nat, decV_inv s x a h1]
        simp only [Option.bind]
        rw [encBs_nat, decBs_inv bs out b h2]
        rfl
  | tup ss bs =>
    cases x with
    | tup xs =>
      simp only [decR] at h
      cases h1 : decVs ss xs with
      | none => simp [h1] at h
      | some a =>
        cases h2 : decBs bs out with
        | none => simp [h1, h2] at h
        | some b =>
          simp only [h1, h2, Option.some.injEq] at h
          subst h
          simp only [encR]
          rw [encVs_nat, decVs_inv ss xs a h1]
          simp only [Option.bind]
          rw [encBs_nat, decBs_inv bs out b h2]
          rfl
    | one c => cases h
    | agg cs => cases h
theorem rowA_le (an : Ann) (dst : Nat) (l : List D) : (rowA an dst l).le (pure l) := by
  unfold rowA
  cases an.row dst with
  | none => exact Q.le.refl _
  | some ds =>
    have hkey : ∀ (R : Type) (k : List D → Option R) x, (tRow ds l fun v => encRow ds v k) = some x → k l = some x := by
      intro R k x h
      unfold tRow at h
      cases h1 : decRow ds l with
      | none => simp [h1] at h
      | some v =>
        simp only [h1] at h
        rw [encRow_nat, decRow_inv ds l v h1] at h
        exact h
    intro S x h
    have hr : (tRow ds l fun v => encRow ds v fun b => (Q.ret b : Q (List D)).run S) = some x := h
    have h1 := hkey _ _ _ hr
    refine ⟨h1, ?_⟩
    show ((tRow ds l fun v => encRow ds v fun b => some ((Q.ret b : Q (List D)).reads S)).getD []) = []
    cases hh : (tRow ds l fun v => encRow ds v fun b => some ((Q.ret b : Q (List D)).reads S)) with
    | none => rfl
    | some y => have := hkey _ _ _ hh; simp only [Q.reads, Option.some.injEq] at this; rw [← this]; rfl
theorem resS_le (s : RS) (o : Option (V × List (List C))) : (Q.res s o).le (Q.ofO o) := by
    have hkey : ∀ (R : Type) (k : V × List (List C) → Option R) x, (tRes s o fun v => encR s v k) = some x → ∃ y, o = some y ∧ k y = some x := by
      intro R k x h
      unfold tRes at h
      cases o with
      | none => simp at h
      | some y =>
        simp only at h
        cases h1 : decR s y with
        | none => simp [h1] at h
        | some v =>
          simp only [h1] at h
          rw [encR_nat, decR_inv s y v h1] at h
          exact ⟨y, rfl, h⟩
    intro S x h
    have hr : (tRes s o fun v => encR s v fun b => (Q.ret b : Q (V × List (List C))).run S) = some x := h
    obtain ⟨y, ho, h1⟩ := hkey _ _ _ hr
    subst ho
    simp only [Q.run, Option.some.injEq] at h1
    subst h1
    refine ⟨by simp, ?_⟩
    show ((tRes s (some y) fun v => encR s v fun b => some ((Q.ret b : Q (V × List (List C))).reads S)).getD []) = []
    cases hh : (tRes s (some y) fun v => encR s v fun b => some ((Q.ret b : Q (V × List (List C))).reads S)) with
    | none => rfl
    | some z => obtain ⟨_, _, h4⟩ := hkey _ _ _ hh; simp only [Q.reads, Option.some.injEq] at h4; rw [← h4]; rfl
theorem resA_le (an : Ann) (f : Nat) (bs : List (List C)) (o : Option (V × List (List C))) : (resA an f bs o).le (Q.ofO o) := by
  unfold resA
  split
  · exact Q.le.no _
  · split
    · split
      · exact resS_le _ _
      · split
        · exact resS_le _ _
        · exact Q.le.refl _
    · exact Q.le.refl _
theorem callA_le (an : Ann) (Cl : Oracle) (dst f : Nat) (vs : List V) (ws : List Wr) : (callA an Cl dst f vs ws).le (callF Cl dst f vs ws) := by
  unfold callA callF
  refine .bindr fun _ => .bindr fun x => ?_
  obtain ⟨rs, bs⟩ := x
  refine .bindr fun vs' => .bindr fun bs' => (resA_le an f _ _).bind fun x => ?_
  exact .refl _
@[simp] theorem Q.reads_pure {α : Type} (S : St) (a : α) : (pure a : Q α).reads S = [] := rfl
@[simp] theorem Q.reads_guard (S : St) (b : Bool) : (Q.guard b).reads S = [] := by cases b <;> rfl
@[simp] theorem Q.reads_ask (S : St) (b : Bool) : (Q.ask b).reads S = [] := by cases b <;> rfl
@[simp] theorem Q.reads_ofO {α : Type} (S : St) (o : Option α) : (Q.ofO o).reads S = [] := by cases o <;> rfl
theorem Q.reads_guard_pure {α : Type} (S : St) (b : Bool) (x : α) : (Q.guard b >>= fun _ => (pure x : Q α)).reads S = [] := by
  cases b <;> rfl
theorem binA_le (tc : TC) (op : BinOp) (x y : V) : (binA tc op x y).le (Q.ofO (binV tc op x y)) := by
  unfold binA
  split
  · rename_i k a k' b
    split
    · refine .of_run (fun S x h => ?_) (fun S => Q.reads_guard_pure ..) (fun S => by simp)
      simp only [Q.run_bind, Q.run_guard, Q.run_pure] at h
      by_cases hg : (decide (k = k') && !decide (b = 0)) = true
      · simp only [Bool.and_eq_true, decide_eq_true_eq, Bool.not_eq_true', decide_eq_false_iff_not] at hg
        obtain ⟨rfl, hb⟩ := hg
        simpa [hb, binV, intOp] using h
      · simp [hg] at h
    · refine .of_run (fun S x h => ?_) (fun S => Q.reads_guard_pure ..) (fun S => by simp)
      simp only [Q.run_bind, Q.run_guard, Q.run_pure] at h
      by_cases hg : (decide (k = k') && !decide (b = 0)) = true
      · simp only [Bool.and_eq_true, decide_eq_true_eq, Bool.not_eq_true', decide_eq_false_iff_not] at hg
        obtain ⟨rfl, hb⟩ := hg
        simpa [hb, binV, intOp] using h
      · simp [hg] at h
    · refine .of_run (fun S x h => ?_) (fun S => Q.reads_guard_pure ..) (fun S => by simp)
      simp only [Q.run_bind, Q.run_guard, Q.run_pure] at h
      by_cases hb : b < 0
      · simp [hb] at h
      · simpa [hb, binV, shiftOp] using h
    · refine .of_run (fun S x h => ?_) (fun S => Q.reads_guard_pure ..) (fun S => by simp)
      simp only [Q.run_bind, Q.run_guard, Q.run_pure] at h
      by_cases hb : b < 0
      · simp [hb] at h
      · simpa [hb, binV, shiftOp] using h
    · exact .refl _
  · rename_i a b
    split
    · refine .of_run (fun S x h => ?_) (fun S => Q.reads_guard_pure ..) (fun S => by simp)
      simp only [Q.run_bind, Q.run_guard, Q.run_pure] at h
      by_cases hb : a.length + b.length ≤ 9223372036854775807
      · simpa [hb, binV, strOp] using h
      · simp [hb] at h
    · exact .refl _
  · exact .refl _
theorem appToA_le (sz bytes : Nat) (v : V) (ws : List Wr) (src : List (List D)) : (appToA sz bytes v ws src).le (appTo sz bytes v ws src) := by
  unfold appToA
  split
  · rename_i b sz' rows
    refine Q.le.bindr fun _ => ?_
    intro S x h
    simp only [Q.run_bind, Q.run_ask, Option.bind] at h
    exact ⟨h, by cases src <;> rfl⟩
  · exact .refl _
def Q.leAt {α : Type} (S : St) (p q : Q α) : Prop := ∀ x, p.run S = some x → q.run S = some x ∧ p.reads S = q.reads S
theorem Q.leAt.bindr {α β : Type} {S : St} {p : Q α} {f g : α → Q β} (hf : ∀ a, p.run S = some a → Q.leAt S (f a) (g a)) : Q.leAt S (p >>= f) (p >>= g) := by
  intro x hx
  rw [Q.run_bind] at hx
  cases hp : p.run S with
  | none => simp [hp] at hx
  | some a =>
    simp only [hp, Option.bind] at hx
    obtain ⟨h3, h4⟩ := hf a hp x hx
    refine ⟨by rw [Q.run_bind, hp]; exact h3, ?_⟩
    rw [Q.reads_bind, Q.reads_bind, hp]
    simp only [h4]
theorem elWrs_eq {pl : Place} {i : Nat} : ∀ (zs olds : List D) (c : Nat) (v : V) (x : D) (ws : List Wr) (sz : Nat) (rows : List (List D)) (row : List D), navD x pl.p = some (.sl .own sz rows) → rows[i]? = some row →
    (∀ (j : Nat) o, olds[j]? = some o → row[c + j]? = some o) → olds.length = zs.length → u8sts zs olds = true → elWrs v pl i c zs x ws = some (elWrsA pl i v c zs olds x ws)
  | [], olds, c, v, x, ws, sz, rows, row, _, _, _, _, _ => by simp [elWrs, elWrsA]
  | z :: t, [], c, v, x, ws, sz, rows, row, _, _, _, h, _ => by cases h
  | z :: t, o :: os, c, v, x, ws, sz, rows, row, hn, hr, ho, hl, h8 => by
    simp only [u8sts, Bool.and_eq_true] at h8
    have hc : row[c]? = some o := by simpa using ho 0 o rfl
    have hcell : cellOf rows i c = some o := cellOf_some.2 ⟨row, hr, hc⟩
    have hnav : navD x (pl.p ++ [(i, c)]) = some o := by
      rw [navD_append, hn]
      simp only [Option.bind_some]
      rw [navD_cons, hcell]
      simp only [Option.bind_some]
      cases o <;> rfl
    simp only [elWrs, hnav, elWrsA, h8.1, if_true]
    have hi : i < rows.length := (List.getElem?_eq_some_iff.1 hr).1
    have hg : rows.getD i [] = row := by
      rw [List.getD_eq_getElem?_getD, hr]; rfl
    refine elWrs_eq t os (c + 1) _ _ _ sz (rows.set i (row.set c z)) (row.set c z) ?_ ?_ ?_ (by simpa using hl) h8.2
    · rw [navD_setD pl.p hn hcell, hg]
    · simp [hi]
    · intro j o' hj
      have := ho (j + 1) o' hj
      rw [List.getElem?_set_ne (by omega)]
      rw [show c + 1 + j = c + (j + 1) by omega]
      exact this
theorem stMvA_le (ws : List Wr) (P : Place) (c : C) : (stMvA ws P c).le (stMv ws P c) := by
  unfold stMvA
  split
  · rename_i pl g sz off len
    split
    · rename_i hb
      simp only [Bool.and_eq_true] at hb
      obtain ⟨hb1, hb2⟩ := hb
      show (ownAt ws pl g sz >>= fun y => Q.guard (off == 0 && len == y.2.2.length && !y.2.2.isEmpty) >>= fun _ => (pure (.d (.sl .own sz y.2.2), setWr ws pl.k (killAt y.1.v pl y.2.1)) : Q (C × List Wr))).le
        (ownAt ws pl g sz >>= fun y => Q.ask (!(pl.k == P.k) && pl.k.mine && (off == 0 && len == y.2.2.length && !y.2.2.isEmpty)) >>= fun t => if t then (pure (.d (.sl .own sz y.2.2), setWr ws pl.k (killAt y.1.v pl y.2.1)) : Q (C × List Wr)) else st ws (.view pl g sz off len))
      refine .bindr fun y => ?_
      obtain ⟨e, x, rows⟩ := y
      intro S r h
      simp only [Q.run_bind, Q.run_guard] at h
      by_cases hg : (off == 0 && len == rows.length && !rows.isEmpty) = true
      · simp only [hg, if_true, Option.bind, Q.run_pure, Option.some.injEq] at h
        subst h
        have ht : (!(pl.k == P.k) && pl.k.mine && (off == 0 && len == rows.length && !rows.isEmpty)) = true := by
          simp only [Bool.and_eq_true] at hg ⊢
          exact ⟨⟨hb1, hb2⟩, hg⟩
        constructor
        · simp only [Q.run_bind, Q.run_ask, ht, Option.bind, if_true, Q.run_pure]
        · simp only [Q.reads_bind, Q.reads_guard, Q.reads_ask, Q.run_guard, Q.run_ask, hg, hb1, hb2, Bool.and_self, if_true, Q.reads_pure]
      · simp [hg] at h
    · exact .refl _
  · exact .refl _
theorem putCellsA_le (mv : Bool) (r : Root) : ∀ (l : List C) (ws : List Wr) (c : Nat), (putCellsA mv r ws c l).le (putCells mv r ws c l)
  | [], ws, c => .refl _
  | y :: t, ws, c => by
    unfold putCellsA putCells
    refine Q.le.bind ?_ fun x => ?_
    · unfold putCellA putCell
      split
      · exact stMvA_le _ _ _
      · exact .refl _
    · obtain ⟨y', ws'⟩ := x
      refine (putCellsA_le mv r t ws' (c + 1)).bind fun x => ?_
      exact .refl _
theorem evOpA_le (an : Ann) (Cl : Oracle) (dst : Nat) (op : IOp) : (evOpA an Cl dst op).le (evOp Cl dst op) := by
  cases op with
  | pick c a b =>
    unfold evOpA evOp
    refine .bindr fun v => ?_
    split
    · rename_i t
      cases t with
      | true =>
        intro S x h
        exact ⟨h, rfl⟩
      | false =>
        intro S x h
        exact ⟨h, rfl⟩
    · exact .no _
  | load n agg x =>
    unfold evOpA evOp
    refine .bindr fun v => ?_
    split
    · exact .refl _
    · rename_i cells
      refine .bindr fun _ => ?_
      have : (do let r' ← mkV agg ((cells.take n).map .d); pure (r', []) : Q (V × List Wr)) = (do let l ← (pure (cells.take n) : Q (List D)); let r' ← mkV agg (l.map .d); pure (r', [])) := rfl
      rw [this]
      exact (rowA_le an dst _).bind fun _ => .refl _
    · rename_i pl g sz i c
      refine .bindr fun y => ?_
      obtain ⟨e, x0, rows⟩ := y
      refine .bindr fun row => .bindr fun _ => ?_
      have : (do let r' ← mkV agg (lookRow pl g i c ((row.drop c).take n)); pure (r', []) : Q (V × List Wr)) = (do let l ← (pure ((row.drop c).take n) : Q (List D)); let r' ← mkV agg (lookRow pl g i c l); pure (r', [])) := rfl
      rw [this]
      exact (rowA_le an dst _).bind fun _ => .refl _
    · exact .refl _
    · exact .no _
  | store mv n x v =>
    unfold evOpA evOp
    refine .bindr fun p => .bindr fun vv => .bindr fun _ => ?_
    split
    · refine (putCellsA_le mv _ _ _ _).bind fun x => ?_
      exact .refl _
    · rename_i pl g sz i c
      intro S
      refine Q.leAt.bindr fun zz hz => Q.leAt.bindr fun er he => Q.leAt.bindr fun row hrow => ?_
      obtain ⟨zs, ws1⟩ := zz
      obtain ⟨e, x0, rows⟩ := er
      obtain ⟨_, _, _, hn⟩ := ownAt_run he
      simp only [Q.run_ofO] at hrow
      intro y hy
      rw [Q.run_bind, Q.run_guard] at hy
      by_cases hg : (decide (c + n ≤ row.length) && zs.length == n) = true
      · rw [if_pos hg] at hy
        simp only [Bool.and_eq_true, decide_eq_true_eq, beq_iff_eq] at hg
        simp only [Option.bind, Q.run_bind] at hy
        cases ho : (rowA an (slotOf x) ((row.drop c).take n)).run S with
        | none => simp [ho] at hy
        | some old =>
          have hold := (rowA_le an (slotOf x) _ S old ho).1
          simp only [Q.run_pure, Option.some.injEq] at hold
          simp only [ho, Q.run_guard] at hy
          by_cases hg2 : (old.length == n && u8sts zs old) = true
          · simp only [hg2, if_true, Q.run_pure, Option.some.injEq] at hy
            have hg3 := hg2
            simp only [Bool.and_eq_true, beq_iff_eq] at hg3
            have hlen : old.length = zs.length := by omega
            have hel := elWrs_eq (pl := pl) (i := i) zs old c e.v x0 ws1 sz rows row hn hrow (by
              intro j o hj
              rw [← hold] at hj
              rw [List.getElem?_take] at hj
              split at hj
              · rwa [List.getElem?_drop] at hj
              · cases hj) hlen hg3.2
            constructor
            · simp only [Q.run_bind, Q.run_guard, hg.1, decide_true, if_true, Option.bind, Q.run_ofO, hel, Q.run_pure, hy]
            · simp only [Q.reads_bind, Q.reads_guard, Q.run_guard, hg.1, hg.2, decide_true, beq_self_eq_true, Bool.and_self, if_true, (rowA_le an (slotOf x) _ S old ho).2, ho, hg2, Q.reads_pure, Q.reads_ofO, Q.run_ofO, hel, List.append_nil]
          · simp [hg2] at hy
      · rw [if_neg hg] at hy; cases hy
    · exact .no _
  | bin tc op x y =>
    unfold evOpA evOp
    exact .bindr fun a => .bindr fun b => (binA_le tc op a b).bind fun _ => .refl _
  | app sz bytes x y =>
    unfold evOpA evOp
    refine .bindr fun a => ?_
    obtain ⟨a, ws⟩ := a
    refine .bindr fun a => ?_
    obtain ⟨a, ws⟩ := a
    refine .bindr fun b => ?_
    exact appToA_le _ _ b.1 b.2 a
  | appS x y =>
    unfold evOpA evOp
    refine .bindr fun a => ?_
    split
    · refine .bindr fun a => ?_
      exact appToA_le _ _ a.1 a.2 _
    · exact .no _
  | call f args =>
    unfold evOpA evOp
    refine .bindr fun v => ?_
    split
    · refine .bindr fun _ => .bindr fun a => ?_
      exact callA_le _ _ _ _ _ a.2
    · exact .no _
  | _ => exact .refl _
theorem St.put_same : ∀ (S : St) (k : Key) (e : Ent), S.get k = e → e ≠ ⟨.one .dead, 0⟩ → S.put k e = S
  | [], k, e, h, hn => absurd h.symm hn
  | (k', e') :: t, k, e, h, hn => by
    simp only [St.get] at h
    simp only [St.put]
    by_cases hk : k' = k
    · simp only [hk, if_true] at h ⊢; rw [h]
    · simp only [hk, if_false] at h ⊢; rw [St.put_same t k e h hn]
theorem withGuard_inv {R : Type} {S : St} {g : Option (Nat × Bool)} {K : Bool → St → List Key → Option R} {r : R} (h : withGuard S g K = some r) :
    ∃ want, (guardQ g).run S = some want ∧ K want S ((guardQ g).reads S).reverse = some r := by
  unfold withGuard at h
  cases g with
  | none => exact ⟨true, rfl, h⟩
  | some x =>
    obtain ⟨t, b⟩ := x
    simp only at h
    cases he : S.get (.s t) with
    | mk v c =>
      rw [he] at h
      have hrun : (guardQ (some (t, b))).run S = (match v with | .one (.d (.bool x)) => (pure (x == b) : Q Bool) | .tup [] => pure false | _ => Q.no).run S := by
        show (Q.run S (match (S.get (.s t)).v with | .one (.d (.bool x)) => (pure (x == b) : Q Bool) | .tup [] => pure false | _ => Q.no)) = _
        rw [he]
      have hrd : ∀ y, (match v with | .one (.d (.bool x)) => (pure (x == b) : Q Bool) | .tup [] => pure false | _ => Q.no) = pure y → (guardQ (some (t, b))).reads S = [.s t] := by
        intro y hy
        show (.s t :: Q.reads S (match (S.get (.s t)).v with | .one (.d (.bool x)) => (pure (x == b) : Q Bool) | .tup [] => pure false | _ => Q.no)) = _
        rw [he]
        simp only [hy]
        rfl
      split at h
      · rename_i x c' heq
        cases heq
        have h2 : K (x == b) (S.put (.s t) ⟨.one (.d (.bool x)), c⟩) [.s t] = some r := by
          cases x <;> exact h
        rw [St.put_same S _ _ he (by simp)] at h2
        refine ⟨x == b, by rw [hrun]; rfl, ?_⟩
        rw [hrd _ rfl]; exact h2
      · rename_i c' heq
        cases heq
        refine ⟨false, by rw [hrun]; rfl, ?_⟩
        rw [hrd _ rfl]; exact h
      · cases h
theorem expoCells_inv {R : Type} {r : Root} {x : R} : ∀ {n c : Nat} {S : St} {K : St → Option R}, expoCells r n c S K = some x → K S = some x
  | 0, c, S, K, h => h
  | n + 1, c, S, K, h => by
    simp only [expoCells] at h
    split at h
    · rename_i t sz rows g he
      have h1 : expoCells r n (c + 1) (S.put (.b r c) ⟨.one (.d (.sl t sz rows)), g⟩) K = some x := by
        cases t <;> exact h
      have h2 := expoCells_inv h1
      rw [St.put_same S _ _ he (by simp)] at h2
      exact h2
    · exact expoCells_inv h
theorem expoV_inv {R : Type} {n : Nat} {v : V} {S : St} {K : St → Option R} {x : R} (h : expoV n v S K = some x) : K S = some x := by
  unfold expoV at h
  split at h
  · exact expoCells_inv h
  · exact h
theorem expoOp_inv {R : Type} {op : IOp} {S : St} {K : St → Option R} {x : R} (h : expoOp op S K = some x) : K S = some x := by
  unfold expoOp at h
  split at h
  · exact expoV_inv h
  · exact expoV_inv h
  · exact h
theorem expoRes_inv {R : Type} {x : R} : ∀ {l : List RV} {S : St} {K : St → Option R}, expoRes l S K = some x → K S = some x
  | [], S, K, h => h
  | .cell t n a :: l, S, K, h => expoRes_inv (expoV_inv (K := fun S => expoRes l S K) h)
  | .slot t :: l, S, K, h => expoRes_inv (l := l) h
theorem evOperA_inv {R : Type} {an : Ann} {Cl : Oracle} {o : IOper} {S : St} {K : St → List Key → List Wr → Option R} {r : R} (h : evOperA an Cl o S K = some r) :
    ∃ ws, (evOper Cl o).run S = some ws ∧ K S ((evOper Cl o).reads S).reverse ws = some r := by
  unfold evOperA at h
  obtain ⟨want, h1, h2⟩ := withGuard_inv h
  clear h
  unfold evOper
  rw [Q.run_bind, Q.reads_bind, h1]
  simp only [Option.bind]
  cases want with
  | true =>
    simp only at h2
    have h2 := expoOp_inv h2
    rw [runK_eq] at h2
    cases hop : (evOpA an Cl (o.dst.getD 0) o.op).run S with
    | none => simp [hop] at h2
    | some x =>
      simp only [hop] at h2
      obtain ⟨h3, h4⟩ := evOpA_le an Cl (o.dst.getD 0) o.op S x hop
      rw [h4] at h2
      simp only [if_true]
      rw [Q.run_bind, Q.reads_bind, h3]
      obtain ⟨v, ws⟩ := x
      cases hd : o.dst with
      | none =>
        simp only [hd, Option.bind, Option.getD] at h2 ⊢
        exact ⟨ws, rfl, by simpa using h2⟩
      | some d =>
        simp only [hd, Option.bind, Option.getD] at h2 ⊢
        exact ⟨_, rfl, by simpa using h2⟩
  | false =>
    simp only at h2
    cases hd : o.dst with
    | none =>
      simp only [hd] at h2
      exact ⟨[], rfl, by simpa using h2⟩
    | some d =>
      simp only [hd] at h2
      exact ⟨_, rfl, by simpa using h2⟩
section
variable {R : Type} {r : R}
theorem fNat_inv : ∀ {f i g : Nat} {K : Nat → Option R}, fNat f i g K = some r → K g = some r
  | 0, _, _, _, h => by cases h
  | f + 1, i, g, K, h => by
    simp only [fNat] at h
    split at h
    · rename_i hb; rw [Nat.eq_of_beq_eq_true hb]; exact h
    · exact fNat_inv h
theorem fN_inv {g : Nat} {K : Nat → Option R} (h : fN g K = some r) : K g = some r := fNat_inv h
theorem fRoot_inv {x : Root} {K : Root → Option R} (h : fRoot x K = some r) : K x = some r := by cases x <;> exact h
theorem fKey_inv : ∀ {x : Key} {K : Key → Option R}, fKey x K = some r → K x = some r
  | .s _, _, h => h
  | .b _ _, _, h => fN_inv (fRoot_inv h)
  | .r _, _, h => fRoot_inv h
  | .h _, _, h => h
  | .a k, K, h => fKey_inv (x := k) (K := fun k => K (.a k)) h
theorem fD_inv {x : D} {K : D → Option R} (h : fD x K = some r) : K x = some r := by
  cases x <;> exact h
theorem fC_inv {x : C} {K : C → Option R} (h : fC x K = some r) : K x = some r := by
  cases x with
  | d x => exact fD_inv (K := fun x => K (.d x)) h
  | ptr a g c => exact fN_inv (K := fun c => K (.ptr a g c)) (fN_inv (K := fun g => fN c fun c => K (.ptr a g c)) (fRoot_inv (K := fun a => fN g fun g => fN c fun c => K (.ptr a g c)) h))
  | eptr pl g sz i c => exact fN_inv (K := fun c => K (.eptr pl g sz i c)) (fN_inv (K := fun g => fN c fun c => K (.eptr pl g sz i c)) h)
  | view pl g sz off len => exact fN_inv (K := fun g => K (.view pl g sz off len)) h
  | appd pl g a sz rows => exact fN_inv (K := fun a => K (.appd pl g a sz rows)) (fN_inv (K := fun g => fN a fun a => K (.appd pl g a sz rows)) h)
  | mp x => exact fD_inv (K := fun x => K (.mp x)) h
  | mref i g => exact fN_inv (K := fun g => K (.mref i g)) h
  | _ => exact h
theorem fCs_inv : ∀ {l : List C} {K : List C → Option R}, fCs l K = some r → K l = some r
  | [], _, h => h
  | c :: t, K, h => fCs_inv (K := fun t => K (c :: t)) (fC_inv (K := fun c => fCs t fun t => K (c :: t)) h)
theorem fVt_inv : ∀ {l : List V} {K : List V → Option R}, fVt l K = some r → K l = some r
  | [], _, h => h
  | .one c :: t, K, h => fVt_inv (K := fun t => K (.one c :: t)) (fC_inv (K := fun c => fVt t fun t => K (.one c :: t)) h)
  | .agg cs :: t, K, h => fVt_inv (K := fun t => K (.agg cs :: t)) (fCs_inv (K := fun cs => fVt t fun t => K (.agg cs :: t)) h)
  | .tup vs :: t, K, h => fVt_inv (K := fun t => K (.tup vs :: t)) h
theorem fV_inv {x : V} {K : V → Option R} (h : fV x K = some r) : K x = some r := by
  cases x with
  | one c => exact fC_inv (K := fun c => K (.one c)) h
  | agg cs => exact fCs_inv (K := fun cs => K (.agg cs)) h
  | tup vs => exact fVt_inv (K := fun vs => K (.tup vs)) h
theorem fKeep_inv {x : Bool} {K : Bool → Option R} (h : fKeep x K = some r) : K x = some r := by cases x <;> exact h
theorem fWs_inv : ∀ {l : List Wr} {K : List Wr → Option R}, fWs l K = some r → K l = some r
  | [], _, h => h
  | ⟨k, v, b⟩ :: t, K, h => by
    have h := fKeep_inv (fV_inv (fKey_inv h))
    exact fWs_inv (K := fun t => K (⟨k, v, b⟩ :: t)) h
theorem fBs_inv : ∀ {l : List (List C)} {K : List (List C) → Option R}, fBs l K = some r → K l = some r
  | [], _, h => h
  | c :: t, K, h => fBs_inv (K := fun t => K (c :: t)) (fCs_inv (K := fun c => fBs t fun t => K (c :: t)) h)
theorem fSt_inv : ∀ {l : St} {K : St → Option R}, fSt l K = some r → K l = some r
  | [], _, h => h
  | (k, ⟨v, g⟩) :: t, K, h => by
    have h := fN_inv (fV_inv (fKey_inv h))
    exact fSt_inv (K := fun t => K ((k, ⟨v, g⟩) :: t)) h
theorem fSpine_inv : ∀ {l : St} {K : St → Option R}, fSpine l K = some r → K l = some r
  | [], _, h => h
  | (k, ⟨v, g⟩) :: t, K, h => by
    have h := fN_inv h
    exact fSpine_inv (K := fun t => K ((k, ⟨v, g⟩) :: t)) h
end
theorem evOpsA_inv {R : Type} {an : Ann} {Cl : Oracle} : ∀ {ops : List IOper} {S : St} {K : St → Option R} {r : R}, evOpsA an Cl ops S K = some r →
    ∃ S', evOps Cl ops S = some S' ∧ K S' = some r
  | [], S, K, r, h => ⟨S, rfl, h⟩
  | o :: t, S, K, r, h => by
    simp only [evOpsA] at h
    obtain ⟨ws, h1, h2⟩ := evOperA_inv h
    obtain ⟨S', h3, h4⟩ := evOpsA_inv (fSpine_inv (fWs_inv h2))
    exact ⟨S', by simp only [evOps, h1, Option.bind]; exact h3, h4⟩
theorem evOpsFA_inv {R : Type} {an : Ann} {Cl : Oracle} : ∀ {ops : List IOper} {S : St} {fs : List Foot} {K : St → List Foot → Option R} {r : R}, evOpsFA an Cl ops S fs K = some r →
    ∃ S' fs', evOpsF Cl ops S = some (S', fs') ∧ K S' (fs.reverse ++ fs') = some r
  | [], S, fs, K, r, h => ⟨S, [], rfl, by simpa [evOpsFA] using h⟩
  | o :: t, S, fs, K, r, h => by
    simp only [evOpsFA] at h
    obtain ⟨ws, h1, h2⟩ := evOperA_inv h
    obtain ⟨S', fs', h3, h4⟩ := evOpsFA_inv (fSpine_inv (fWs_inv h2))
    refine ⟨S', _, by simp only [evOpsF, h1, Option.bind, h3, Option.map]; rfl, ?_⟩
    simpa using h4
theorem drawA_inv {R : Type} {an : Ann} {Cl : Oracle} {ops : List IOper} {draw : Option (List (Nat × Nat))} {S : St} {K : St → Option R} {r : R} (h : drawA an Cl ops draw S K = some r) :
    ∃ S', evReg Cl none false ops draw S = some S' ∧ K S' = some r := by
  unfold drawA at h
  unfold evReg
  simp only [Option.bind]
  split at h
  · obtain ⟨S', h1, h2⟩ := evOpsA_inv h
    exact ⟨S', by simpa using h1, h2⟩
  · obtain ⟨S', h1, h2⟩ := evOpsA_inv h
    exact ⟨S', by simpa using h1, h2⟩
  · rename_i ps hne
    obtain ⟨S', fs', h1, h2⟩ := evOpsFA_inv h
    simp only [List.reverse_nil, List.nil_append] at h2
    split at h2
    · rename_i hp
      refine ⟨S', ?_, h2⟩
      cases ps with
      | nil => exact absurd rfl hne
      | cons p ps => simp [h1, hp]
    · cases h2
theorem evReg_prep {Cl : Oracle} {keep : Option (List Nat)} {gc : Bool} {ops : List IOper} {draw : Option (List (Nat × Nat))} {S : St} :
    evReg Cl keep gc ops draw S = (S.prep keep gc).bind (evReg Cl none false ops draw) := by
  unfold evReg St.prep
  simp only [Option.bind_assoc]
  cases keep with
  | none => cases gc <;> rfl
  | some l =>
    cases h : S.norm l with
    | none => simp only [h, Option.bind]
    | some S1 => simp only [h, Option.bind]; cases gc <;> rfl
theorem addHead_eq {Cl : Oracle} {n : Nat} {keep : Option (List Nat)} {gc : Bool} : ∀ {c : KCode}, c.headOk = true → ∀ (S : St),
    evC Cl n (addHead keep gc (ofK c)) S = (S.prep keep gc).bind (evC Cl n (ofK c))
  | .reg k g ops draw, h, S => by
    cases k with
    | none =>
      cases g with
      | false =>
        simp only [ofK, addHead]
        show (evReg Cl keep gc ops draw S).map _ = _
        rw [evReg_prep]
        cases S.prep keep gc <;> rfl
      | true => cases h
    | some => cases h
  | .seq a b, h, S => by
    simp only [ofK, addHead, evC]
    rw [addHead_eq (c := a) h S]
    cases S.prep keep gc <;> rfl
  | .block id b, h, S => by
    simp only [ofK, addHead, evC]
    rw [addHead_eq (c := b) h S]
    cases S.prep keep gc <;> rfl
  | .join id k g a b, h, S => by
    simp only [ofK, addHead, evC]
    rw [addHead_eq (c := a) h S]
    cases S.prep keep gc <;> rfl
  | .skip, h, _ => by cases h
  | .cond .., h, _ => by cases h
  | .loop .., h, _ => by cases h
  | .exit _, h, _ => by cases h
  | .ret, h, _ => by cases h
theorem condA_inv {R : Type} {S : St} {c : X} {K : Bool → St → Option R} {r : R} (h : condA S c K = some r) : ∃ b, condV S c = some b ∧ K b S = some r := by
  unfold condA at h
  split at h
  · rename_i i
    split at h
    · rename_i b g he
      have h1 : K b (S.put (.s i) ⟨.one (.d (.bool b)), g⟩) = some r := by cases b <;> exact h
      rw [St.put_same S _ _ he (by simp)] at h1
      refine ⟨b, ?_, h1⟩
      unfold condV
      simp only [rd, Q.run_bind, Q.run_at, Option.bind, he, Q.run_pure]
      rfl
    · cases h
  · rw [runK_eq] at h
    unfold condV
    cases hr : (rd c).run S with
    | none => simp [hr] at h
    | some v =>
      simp only [hr] at h
      split at h
      · rename_i b
        refine ⟨b, rfl, ?_⟩
        cases b <;> exact h
      · cases h
theorem iterK_inv {R : Type} {id : Nat} {f : St → Kont R → Option R} {g : St → Option (IExit × St)} {keep : Option (List Nat)} {gc : Bool} {K : Kont R} {r : R}
    (hf : ∀ S K', f S K' = some r → ∃ e S', g S = some (e, S') ∧ K' e S' = some r) :
    ∀ (m : Nat) (S S1 : St), S.prep keep gc = some S1 → iterK id f keep gc m S1 K = some r → ∃ e S', iter (fun S => (S.prep keep gc).bind g) m S = some (e, S') ∧ K e S' = some r
  | 0, _, _, _, h => by cases h
  | m + 1, S, S1, hp, h => by
    simp only [iterK] at h
    obtain ⟨e, S', h1, h2⟩ := hf _ _ h
    simp only [iter, hp, Option.bind, h1]
    cases e with
    | norm =>
      simp only [nextK] at h2
      cases hp2 : S'.prep keep gc with
      | none => simp [hp2] at h2
      | some S2 =>
        simp only [hp2] at h2
        exact iterK_inv hf m S' S2 hp2 (fSt_inv h2)
    | exit i => exact ⟨_, _, rfl, h2⟩
    | ret => exact ⟨_, _, rfl, h2⟩
theorem unbx_bx : ∀ (ds : List DS) (v : RowT ds), unbx ds (bx ds v) = some v
  | [], _ => rfl
  | s :: t, v => by
    have h := unbx_bx t v.2
    unfold unbx at h ⊢
    simp only [bx, decCs, cC_decC, h]
theorem jumpK_inv {R : Type} {id : Nat} {f : St → Kont R → Option R} {m : Nat} {S : St} {K : Kont R} {r : R} (h : jumpK id f m S K = some r) : f S K = some r := by
  cases m with
  | zero => cases h
  | succ m => exact h
theorem evCA_inv {R : Type} {an : Ann} {Cl : Oracle} {n : Nat} : ∀ {c : KCode} {S : St} {K : Kont R} {r : R}, evCA an Cl n c S K = some r →
    ∃ e S', evC Cl n (ofK c) S = some (e, S') ∧ K e S' = some r
  | .skip, S, K, r, h => ⟨_, _, rfl, h⟩
  | .exit id, S, K, r, h => ⟨_, _, rfl, h⟩
  | .ret, S, K, r, h => ⟨_, _, rfl, h⟩
  | .reg keep gc ops draw, S, K, r, h => by
    simp only [evCA] at h
    cases hp : S.prep keep gc with
    | none => simp [hp] at h
    | some S1 =>
      simp only [hp] at h
      obtain ⟨S', h1, h2⟩ := drawA_inv (fSt_inv h)
      refine ⟨_, S', ?_, h2⟩
      simp only [ofK, evC, evReg_prep (keep := keep) (gc := gc), hp, Option.bind, h1]
      rfl
  | .seq a b, S, K, r, h => by
    simp only [evCA] at h
    obtain ⟨e, S1, h1, h2⟩ := evCA_inv h
    cases e with
    | norm =>
      simp only [seqK] at h2
      obtain ⟨e2, S2, h3, h4⟩ := evCA_inv h2
      exact ⟨e2, S2, by simp only [ofK, evC, h1, Option.bind]; exact h3, h4⟩
    | exit i => exact ⟨_, S1, by simp only [ofK, evC, h1, Option.bind], h2⟩
    | ret => exact ⟨_, S1, by simp only [ofK, evC, h1, Option.bind], h2⟩
  | .cond c a b, S, K, r, h => by
    simp only [evCA] at h
    obtain ⟨t, h1, h2⟩ := condA_inv h
    cases t with
    | true =>
      obtain ⟨e, S1, h3, h4⟩ := evCA_inv h2
      exact ⟨e, S1, by simp only [ofK, evC, h1, Option.bind, if_true]; exact h3, h4⟩
    | false =>
      obtain ⟨e, S1, h3, h4⟩ := evCA_inv h2
      exact ⟨e, S1, by simp only [ofK, evC, h1, Option.bind]; exact h3, h4⟩
  | .block id b, S, K, r, h => by
    simp only [evCA] at h
    obtain ⟨e, S1, h1, h2⟩ := evCA_inv h
    cases e with
    | norm => exact ⟨_, S1, by simp only [ofK, evC, h1, Option.map], h2⟩
    | exit i =>
      simp only [blockK] at h2
      split at h2
      · rename_i hb
        have hi : i = id := Nat.eq_of_beq_eq_true hb
        exact ⟨.norm, S1, by simp only [ofK, evC, h1, Option.map, hi, if_true], h2⟩
      · rename_i hb
        have hi : i ≠ id := by intro hi; subst hi; simp at hb
        exact ⟨.exit i, S1, by simp only [ofK, evC, h1, Option.map, hi, if_false], h2⟩
    | ret => exact ⟨_, S1, by simp only [ofK, evC, h1, Option.map], h2⟩
  | .loop id keep gc b, S, K, r, h => by
    simp only [evCA] at h
    split at h
    · rename_i hh
      cases hp : S.prep keep gc with
      | none => simp [hp] at h
      | some S1 =>
        simp only [hp] at h
        obtain ⟨e, S', h1, h2⟩ := iterK_inv (g := evC Cl n (ofK b)) (fun S K' h => evCA_inv h) n S S1 hp (fSt_inv h)
        refine ⟨e, S', ?_, h2⟩
        simp only [ofK, evC]
        have : (evC Cl n (addHead keep gc (ofK b))) = (fun S => (S.prep keep gc).bind (evC Cl n (ofK b))) := by
          funext S; exact addHead_eq hh S
        rw [this]
        exact h1
    · cases h
  | .join id keep gc a b, S, K, r, h => by
    simp only [evCA] at h
    split at h
    · rename_i hh
      obtain ⟨e, S1, h1, h2⟩ := evCA_inv h
      cases e with
      | norm =>
        simp only [seqK, joinK] at h2
        cases hp : S1.prep keep gc with
        | none => simp [hp] at h2
        | some S2 =>
          simp only [hp] at h2
          obtain ⟨e2, S3, h3, h4⟩ := evCA_inv (jumpK_inv (fSt_inv h2))
          refine ⟨e2, S3, ?_, h4⟩
          simp only [ofK, evC, h1, Option.bind]
          rw [addHead_eq hh S1, hp]
          exact h3
      | exit i => exact ⟨_, S1, by simp only [ofK, evC, h1, Option.bind], h2⟩
      | ret => exact ⟨_, S1, by simp only [ofK, evC, h1, Option.bind], h2⟩
    · cases h
theorem evBodyA_inv {an : Ann} {Cl : Oracle} {n : Nat} {fn : KFunc} {args : List V} {bx : List (List C)} {r : V × List (List C)} (h : evBodyA an Cl n fn args bx = some r) :
    evBody Cl n fn.fn args bx = some r := by
  unfold evBodyA at h
  split at h
  · rename_i hl
    obtain ⟨e, S', h1, h2⟩ := evCA_inv h
    unfold evBody
    have hl' : args.length ≤ fn.fn.nslots := Nat.le_of_ble_eq_true hl
    rw [if_pos hl']
    have hb : fn.fn.body = ofK fn.body := rfl
    rw [hb, h1]
    simp only [Option.bind]
    unfold retK at h2
    split at h2
    · cases h2
    · rename_i hne
      have h2 := expoRes_inv h2
      rw [runK_eq] at h2
      have hev : evRet ⟨0, fn.results, .skip, fn.forget⟩ bx = evRet fn.fn bx := rfl
      rw [hev] at h2
      have key : (evRet fn.fn bx).run S' = some r := by
        cases hr : (evRet fn.fn bx).run S' with
        | none => simp [hr] at h2
        | some x =>
          simp only [hr] at h2
          have h3 := fBs_inv (fV_inv h2)
          simpa using h3
      cases e with
      | exit i => exact absurd rfl (hne i)
      | norm => exact key
      | ret => exact key
  · cases h
end
section
section
variable {A B : Oracle}
end
end
section
def headRC : ICode → Option (Option (List Nat) × Bool)
  | .reg k g _ _ => some (k, g)
  | .seq a _ => headRC a
  | .block _ b => headRC b
  | _ => none
def stripH : KCode → KCode
  | .reg _ _ o d => .reg none false o d
  | .seq a b => .seq (stripH a) b
  | .join i k g a b => .join i k g (stripH a) b
  | .block i b => .block i (stripH b)
  | c => c
def opSplit : IOp → Bool
  | .app .. => true
  | .appS .. => true
  | _ => false
def KCode.ways : KCode → Nat × List Nat
  | .skip => (1, [])
  | .reg _ _ ops _ => (if ops.any fun o => opSplit o.op || o.guard.isSome then 2 else 1, [])
  | .seq a b => match a.ways with
    | (0, l) => (0, l)
    | (m + 1, l) => match b.ways with
      | (n, r) => (min 99 ((m + 1) * n), l ++ (List.replicate (min 9 (m + 1)) r).flatten)
  | .cond _ a b => match a.ways, b.ways with
    | (m, l), (n, r) => (m + n, l ++ r)
  | .block i b => match b.ways with
    | (m, l) => (m + (l.filter fun j => Nat.beq j i).length, l.filter fun j => !(Nat.beq j i))
  | .loop _ _ _ b => match b.ways with
    | (_, l) => (0, l)
  | .join _ _ _ a b => match a.ways with
    | (0, l) => (0, l)
    | (_ + 1, l) => match b.ways with
      | (n, r) => (n, l ++ r)
  | .exit i => (0, [i])
  | .ret => (0, [])
def opWt : IOp → Nat
  | .call .. => 6
  | .load .. => 2
  | .store .. => 2
  | _ => 1
def KCode.wt : KCode → Nat
  | .reg _ _ ops _ => (ops.map fun o => opWt o.op).foldl (· + ·) 0
  | .seq a b => a.wt + b.wt
  | .cond _ a b => 2 + a.wt + b.wt
  | .block _ b => b.wt
  | .loop _ _ _ b => 4 + b.wt
  | .join _ _ _ a _ => a.wt + 4
  | _ => 0
def toKN (lim : Nat) : ICode → Nat → KCode × Nat
  | .skip, n => (.skip, n)
  | .reg k g o d, n => (.reg k g o d, n)
  | .seq a b, n => match toKN lim b n with
    | (b', n1) => match toKN lim a n1 with
      | (a', n2) => match headRC b, Nat.ble lim ((a'.ways.1 - 1) * b'.wt) with
        | some (k, g), true => (.join n2 k g a' (stripH b'), n2 + 1)
        | _, _ => (.seq a' b', n2)
  | .cond c a b, n => match toKN lim a n with
    | (a', n1) => match toKN lim b n1 with
      | (b', n2) => (.cond c a' b', n2)
  | .block i b, n => match toKN lim b n with
    | (b', n1) => (.block i b', n1)
  | .loop b, n => match toKN lim b (n + 1) with
    | (b', n1) => match headRC b with
      | some (k, g) => (.loop n k g (stripH b'), n1)
      | none => (.loop n none false b', n1)
  | .exit i, n => (.exit i, n)
  | .ret, n => (.ret, n)
def kOf (lim : Nat) (f : Option IFunc) : KFunc :=
  match f with
  | some g => ⟨g.nslots, g.results, (toKN lim g.body 0).1, g.forget⟩
  | none => ⟨0, [], .skip, false⟩
def KCode.at_ : KCode → List Nat → KCode
  | c, [] => c
  | .seq a b, i :: p => match i with | 0 => a.at_ p | _ => b.at_ p
  | .join _ _ _ a b, i :: p => match i with | 0 => a.at_ p | _ => b.at_ p
  | .cond _ a b, i :: p => match i with | 0 => a.at_ p | _ => b.at_ p
  | .block _ b, _ :: p => b.at_ p
  | .loop _ _ _ b, _ :: p => b.at_ p
  | c, _ :: _ => c
end
section
section
variable {nm : FuncId → Option Nat} {N : Nat} {S0 : St} {w0 : World} {L0 : LabF} {ws : List Wr} {a : Act} {w : World} {L : LabF} {P : Program}
theorem idx_lt {i c n sz : Nat} (hi : i < n) (hc : c < sz) : i * sz + c < n * sz := by
  have : (i + 1) * sz ≤ n * sz := Nat.mul_le_mul_right _ hi
  rw [Nat.add_mul] at this; omega
theorem cellOf_idx {rows : List (List D)} {sz k : Nat} (hlen : ∀ r ∈ rows, r.length = sz) (hk : k < rows.length * sz) : ∃ i c x, cellOf rows i c = some x ∧ k = i * sz + c ∧ i < rows.length ∧ c < sz := by
  have hsz : 0 < sz := by
    rcases Nat.eq_zero_or_pos sz with h | h
    · rw [h] at hk; omega
    · exact h
  have hi : k / sz < rows.length := by rw [Nat.div_lt_iff_lt_mul hsz]; exact hk
  have hc : k % sz < sz := Nat.mod_lt _ hsz
  refine ⟨k / sz, k % sz, (rows[k / sz]'hi)[k % sz]'(by rw [hlen _ (List.getElem_mem hi)]; exact hc), ?_, ?_, hi, hc⟩
  · unfold cellOf
    simp [hi, hlen _ (List.getElem_mem hi), hc]
  · have := Nat.div_add_mod k sz
    rw [Nat.mul_comm] at this; exact this.symm
theorem cellOf_append (a b : List (List D)) (i c : Nat) : cellOf (a ++ b) i c = if i < a.length then cellOf a i c else cellOf b (i - a.length) c := by
  unfold cellOf
  rw [List.getElem?_append]
  split <;> rfl
theorem World.setCells_heap (b : Nat) : ∀ (vs : List Value) (o : Nat) (w : World) {cur : Array Value} {e : TypeId} {fz : Nat × Nat}, w.heap[b]? = some (.cells cur e fz) →
    ∃ cur', (w.setCells b o vs).heap[b]? = some (.cells cur' e fz) ∧ cur'.size = cur.size ∧ (∀ i, i < o → cur'[i]? = cur[i]?) ∧ (∀ j v, vs[j]? = some v → o + j < cur.size → cur'[o + j]? = some v) ∧
      ∀ i, o + vs.length ≤ i → cur'[i]? = cur[i]?
  | [], o, w, cur, e, fz, h => ⟨cur, h, rfl, fun _ _ => rfl, fun j v hv => by simp at hv, fun _ _ => rfl⟩
  | v :: vs, o, w, cur, e, fz, h => by
    have h1 := heap_setCell_eq w b o v h
    obtain ⟨cur', g1, g2, g3, g4, g5⟩ := World.setCells_heap b vs (o + 1) (w.setCell ⟨b, o, none⟩ v) h1
    refine ⟨cur', g1, by simpa using g2, ?_, ?_, ?_⟩
    · intro i hi
      rw [g3 i (by omega), Array.getElem?_setIfInBounds_ne (by omega)]
    · intro j u hu hlt
      cases j with
      | zero =>
        simp only [List.getElem?_cons_zero, Option.some.injEq] at hu
        subst hu
        rw [Nat.add_zero, g3 o (by omega), Array.getElem?_setIfInBounds]
        simp only [if_true]
        rw [if_pos (by omega)]
      | succ j =>
        have := g4 j u (by simpa using hu) (by simp; omega)
        rwa [show o + 1 + j = o + (j + 1) by omega] at this
    · intro i hi
      simp only [List.length_cons] at hi
      rw [g5 i (by omega), Array.getElem?_setIfInBounds_ne (by omega)]
theorem World.setCells_ne (b : Nat) : ∀ (vs : List Value) (o : Nat) (w : World) {B : Nat}, B ≠ b → (w.setCells b o vs).heap[B]? = w.heap[B]?
  | [], _, _, _, _ => rfl
  | v :: vs, o, w, B, h => by rw [World.setCells, World.setCells_ne b vs (o + 1) _ h, heap_setCell_ne _ _ _ _ h]
theorem World.setCells_rest (b : Nat) : ∀ (vs : List Value) (o : Nat) (w : World), (w.setCells b o vs).os = w.os ∧ (w.setCells b o vs).tape = w.tape ∧ (w.setCells b o vs).output = w.output ∧ (w.setCells b o vs).heap.size = w.heap.size ∧ (w.setCells b o vs).drawn = w.drawn
  | [], _, _ => ⟨rfl, rfl, rfl, rfl, rfl⟩
  | v :: vs, o, w => by
    obtain ⟨h1, h2, h3, h4, h5⟩ := World.setCells_rest b vs (o + 1) (w.setCell ⟨b, o, none⟩ v)
    exact ⟨h1, h2, h3, by rw [World.setCells, h4]; simp, h5⟩
structure Src (P : Program) (sz : Nat) (w : World) (x : Value) (n : Nat) (news : Array Value) : Prop where
  len : ∀ w' : World, (Builtin.lenOf x).run P w' = .ok n w'
  read : ∀ w' : World, w'.heap = w.heap → (Builtin.firstCells sz n x).run P w' = .ok news w'
  size : news.size = n * sz
  one : ∀ u ∈ news, u.oneCell' = true
theorem run_append_in {t u ty e : TypeId} {i : TypeInfo} {d : TypeDesc} (ht : P.underlying t = some (.slice e)) (hu : P.underlying u = some d) (hd : ∀ k, d ≠ .int k) (hi : P.info? e = some i)
    {x : Value} {n : Nat} {news : Array Value} (hx : Src P i.size w x n news) {B o sLen sCap : Nat} (hroom : sLen + n ≤ sCap)
    (hc : ∀ j, j < news.size → (w.cell? ⟨B, o + sLen * i.size + j, none⟩).isSome = true) (hf : ∀ j, j < news.size → w.frozen? ⟨B, o + sLen * i.size + j, none⟩ = false) :
    (Builtin.append_ #[t, u] ty #[.slice (some ⟨B, o, none⟩) sLen sCap, x]).run P w =
      .ok (.slice (some ⟨B, o, none⟩) (sLen + n) sCap) (w.setCells B (o + sLen * i.size) news.toList) := by
  have hz : (match d with | .int _ => true | _ => false) = false := by cases d <;> first | rfl | exact absurd rfl (hd _)
  have hst := run_storeCells_cells (P := P) B (o + sLen * i.size) news.toList 0 w (by simpa using hc) (by simpa using hf) (by simpa using hx.one)
  have hadd : (⟨B, o, none⟩ : Addr).add (sLen * i.size) = ⟨B, o + sLen * i.size, none⟩ := by unfold Addr.add; split <;> simp_all
  simp only [Nat.add_zero] at hst
  simp [Builtin.append_, run_underlying ht, run_underlying hu, sizeOf, typeInfo, hi, hz, hx.len, hx.read, hroom, hst, hadd]
theorem run_append_in0 {t u ty e : TypeId} {i : TypeInfo} {d : TypeDesc} (ht : P.underlying t = some (.slice e)) (hu : P.underlying u = some d) (hd : ∀ k, d ≠ .int k) (hi : P.info? e = some i)
    {x : Value} {news : Array Value} (hx : Src P i.size w x 0 news) {b : Option Addr} {sLen sCap : Nat} (hroom : sLen ≤ sCap) :
    (Builtin.append_ #[t, u] ty #[.slice b sLen sCap, x]).run P w = .ok (.slice b sLen sCap) w := by
  have hz : (match d with | .int _ => true | _ => false) = false := by cases d <;> first | rfl | exact absurd rfl (hd _)
  have hn : news = #[] := by have := hx.size; simpa using this
  subst hn
  cases b with
  | none => simp [Builtin.append_, run_underlying ht, run_underlying hu, sizeOf, typeInfo, hi, hz, hx.len, hx.read, hroom]
  | some b => simp [Builtin.append_, run_underlying ht, run_underlying hu, sizeOf, typeInfo, hi, hz, hx.len, hx.read, hroom, storeCells]
theorem run_append_new {t u ty e : TypeId} {i : TypeInfo} {d : TypeDesc} {z : Value} (ht : P.underlying t = some (.slice e)) (hu : P.underlying u = some d) (hd : ∀ k, d ≠ .int k) (hi : P.info? e = some i) (hz : i.zero = some z)
    {x : Value} {n : Nat} {news : Array Value} (hx : Src P i.size w x n news) {b : Option Addr} {sLen sCap : Nat} {olds : Array Value} (hroom : sCap < sLen + n)
    (ho : ∀ w' : World, w'.heap = w.heap → (Builtin.firstCells i.size sLen (.slice b sLen sCap)).run P w' = .ok olds w')
    (hb0 : i.bytes ≠ 0) (hb : (sLen + n) * i.bytes ≤ 140737488355328) :
    (Builtin.append_ #[t, u] ty #[.slice b sLen sCap, x]).run P w =
      .ok (.slice (some ⟨w.heap.size, 0, none⟩) (sLen + n) (grownCap w (sLen + n) sCap e))
        (w.drew.alloc (.cells (olds ++ news ++ Builtin.zeroCells z.cells (grownCap w (sLen + n) sCap e - (sLen + n))) e)) := by
  have hzz : (match d with | .int _ => true | _ => false) = false := by cases d <;> first | rfl | exact absurd rfl (hd _)
  have hn : ¬ (sLen + n ≤ sCap) := by omega
  have h48' : ¬ (281474976710656 < Builtin.nextslicecap (sLen + n) sCap * i.bytes) := by
    have := growslice_fits hroom hb; omega
  have h1 := ho w.drew rfl
  have h2 := hx.read w.drew rfl
  simp [Builtin.append_, run_underlying ht, run_underlying hu, sizeOf, typeInfo, zeroValue, hi, hz, hzz, hb0, hx.len, hn, h48', Question.forced, h1, h2, newRow, grownCap]
def srcTo (m m2 n : Nat) : Place → Option Place := fun q =>
  if q.k = .h m2 ∧ q.j = 0 then (match q.p with | (i, c) :: r => some ⟨.h m, 0, (n + i, c) :: r⟩ | [] => none)
  else if q.k = .h m ∧ q.j = 0 then (match q.p with | (i, _) :: _ => if i < n then some q else none | [] => some q)
  else some q
theorem srcTo_fix {m m2 n : Nat} {q : Place} (h : q.k.isPl = true) : srcTo m m2 n q = some q := by
  unfold srcTo
  rw [if_neg (fun e => by rw [e.1] at h; simp [Key.isPl] at h), if_neg (fun e => by rw [e.1] at h; simp [Key.isPl] at h)]
theorem srcTo_cases {m m2 n : Nat} (hne : m ≠ m2) {q t : Place} (h : srcTo m m2 n q = some t) :
    ((q.k = .h m2 ∧ q.j = 0) ∧ ∃ i c r, q.p = (i, c) :: r ∧ t = ⟨.h m, 0, (n + i, c) :: r⟩) ∨
    ((q.k = .h m ∧ q.j = 0) ∧ t = q ∧ ∀ i c r, q.p = (i, c) :: r → i < n) ∨
    (¬ (q.k = .h m2 ∧ q.j = 0) ∧ ¬ (q.k = .h m ∧ q.j = 0) ∧ t = q) := by
  unfold srcTo at h
  split at h
  · rename_i h1
    split at h
    · rename_i i c r hp
      simp only [Option.some.injEq] at h
      exact .inl ⟨h1, i, c, r, hp, h.symm⟩
    · cases h
  · rename_i h1
    split at h
    · rename_i h2
      split at h
      · rename_i i c r hp
        split at h
        · rename_i hi
          simp only [Option.some.injEq] at h
          exact .inr (.inl ⟨h2, h.symm, fun i' c' r' e => by rw [hp] at e; simp only [List.cons.injEq, Prod.mk.injEq] at e; omega⟩)
        · cases h
      · rename_i hp
        simp only [Option.some.injEq] at h
        exact .inr (.inl ⟨h2, h.symm, fun i' c' r' e => by rw [hp] at e; cases e⟩)
    · rename_i h2
      simp only [Option.some.injEq] at h
      exact .inr (.inr ⟨h1, h2, h.symm⟩)
theorem srcTo_inj {m m2 n : Nat} (hne : m ≠ m2) {q q' t : Place} (h1 : srcTo m m2 n q = some t) (h2 : srcTo m m2 n q' = some t) : q = q' := by
  have ext : ∀ {q q' : Place}, q.k = q'.k → q.j = q'.j → q.p = q'.p → q = q' := fun {q q'} a b c => by cases q; cases q'; simp_all
  rcases srcTo_cases hne h1 with ⟨a1, i, c, r, a2, a3⟩ | ⟨a1, a2, a3⟩ | ⟨a1, a2, a3⟩ <;> rcases srcTo_cases hne h2 with ⟨b1, i', c', r', b2, b3⟩ | ⟨b1, b2, b3⟩ | ⟨b1, b2, b3⟩
  · rw [a3] at b3
    simp only [Place.mk.injEq, List.cons.injEq, Prod.mk.injEq, true_and] at b3
    refine ext (a1.1.trans b1.1.symm) (a1.2.trans b1.2.symm) ?_
    rw [a2, b2, b3.2, b3.1.2, show i = i' by omega]
  · have := b3 (n + i) c r (by rw [← b2, a3])
    omega
  · exact absurd (by rw [← b3, a3]; exact ⟨rfl, rfl⟩) b2
  · have := a3 (n + i') c' r' (by rw [← a2, b3])
    omega
  · rw [← a2, ← b2]
  · exact absurd (by rw [← b3, a2]; exact a1) b2
  · exact absurd (by rw [← a3, b3]; exact ⟨rfl, rfl⟩) a2
  · exact absurd (by rw [← a3, b2]; exact b1) a2
  · rw [← a3, ← b3]
theorem Rel.relabH {S : St} (h : Rel nm N S a w L) {f : Place → Option Place} (hfix : ∀ q : Place, q.k.isPl = true → f q = some q) (hinj : ∀ q q' t, f q = some t → f q' = some t → q = q') :
    Rel nm N S a w (relab f L) := by
  refine h.growH ?_ ?_ (relab_inj h.rowInj (fun q q' t _ _ _ _ h1 h2 _ _ => hinj q q' t h1 h2)) (fun B B' r o o' h1 h2 => h.boxInj B B' r o o' (relab_box.1 h1) (relab_box.1 h2))
  · intro B l hB hl
    refine ⟨rfl, ?_⟩
    cases l with
    | imm => exact relab_imm.2 hB
    | box r o => exact relab_box.2 hB
    | row q o => exact relab_of_row hB (hfix q (hl q o rfl))
  · intro B l hB
    obtain ⟨l0, h0⟩ := relab_dom hB
    exact h.dom B l0 h0
theorem relab_mono (f : Place → Option Place) : Mono w w L (relab f L) :=
  ⟨rfl, rfl, rfl, Nat.le_refl _, fun B hB => ⟨relab_imm.2 hB, rfl⟩, fun B _ hB => ⟨relab_none hB, rfl⟩, fun B i o hB => relab_box.2 hB⟩
theorem app_cont {m : Nat} {pl : Place} (hpl : pl.k.isPl = true ∨ pl = ⟨.h m, 0, []⟩) {m2 n0 : Nat} (hne : m ≠ m2) {rows src : List (List D)} {val val2 : Nat → Nat → Value}
    (h1 : ∀ i c x, cellOf rows i c = some x → RepD w L ((if i < n0 then pl else ⟨.h m, 0, []⟩).sub i c) x (val i c)) (h2 : Cont w L ⟨.h m2, 0, []⟩ src val2) (hlt : ∀ i c x, cellOf rows i c = some x → i < rows.length) :
    ∀ i c x, cellOf (rows ++ src) i c = some x → RepD w (relab (srcTo m m2 rows.length) L) ((if i < min n0 rows.length then pl else ⟨.h m, 0, []⟩).sub i c) x (if i < rows.length then val i c else val2 (i - rows.length) c) := by
  intro i c x hx
  rw [cellOf_append] at hx
  have hH : ∀ {t : Place} {y : D} {u : Value}, RepD w L t y u → (∃ i c r, t = ⟨.h m, 0, (i, c) :: r⟩ ∧ i < rows.length) → RepD w (relab (srcTo m m2 rows.length) L) t y u := by
    intro t y u hy ht
    refine RepD.move id (fun t => ∃ i c r, t = ⟨.h m, 0, (i, c) :: r⟩ ∧ i < rows.length) ?_ (fun _ _ _ _ => rfl) (fun B hB => ⟨relab_imm.2 hB, rfl⟩) ?_ hy ht
    · rintro q i' c' ⟨i, c, r, rfl, hi⟩
      exact ⟨i, c, r ++ [(i', c')], rfl, hi⟩
    · rintro B q o ⟨i, c, r, rfl, hi⟩ hL
      refine ⟨relab_of_row hL ?_, rfl⟩
      unfold srcTo
      rw [if_neg (fun e => by simp only [Key.h.injEq] at e; exact hne e.1), if_pos ⟨rfl, rfl⟩]
      simp only [id, hi, if_true]
  by_cases hi : i < rows.length
  · rw [if_pos hi] at hx ⊢
    have h0 := h1 i c x hx
    by_cases hn : i < n0
    · rw [if_pos hn] at h0
      rw [if_pos (by omega)]
      rcases hpl with hpl | rfl
      · refine RepD.move id (fun q => q.k = pl.k) (fun _ _ _ h => h) (fun _ _ _ _ => rfl) (fun B hB => ⟨relab_imm.2 hB, rfl⟩) ?_ h0 rfl
        intro B q o hq hL
        exact ⟨relab_of_row hL (srcTo_fix (by rw [hq]; exact hpl)), rfl⟩
      · exact hH h0 ⟨i, c, [], rfl, hi⟩
    · rw [if_neg hn] at h0
      rw [if_neg (by omega)]
      exact hH h0 ⟨i, c, [], rfl, hi⟩
  · rw [if_neg hi] at hx ⊢
    rw [if_neg (by omega)]
    have h0 := h2 (i - rows.length) c x hx
    have := RepD.move (w' := w) (L' := relab (srcTo m m2 rows.length) L) (fun q => match q.p with | (i, c) :: r => ⟨.h m, 0, (rows.length + i, c) :: r⟩ | [] => q) (fun q => ∃ i c r, q = ⟨.h m2, 0, (i, c) :: r⟩)
      (by rintro q i' c' ⟨i, c, r, rfl⟩; exact ⟨i, c, r ++ [(i', c')], rfl⟩) (by rintro q i' c' ⟨i, c, r, rfl⟩; rfl) (fun B hB => ⟨relab_imm.2 hB, rfl⟩)
      (by
        rintro B q o ⟨i, c, r, rfl⟩ hL
        refine ⟨relab_of_row hL ?_, rfl⟩
        unfold srcTo
        rw [if_pos ⟨rfl, rfl⟩]) h0 ⟨_, _, [], rfl⟩
    simp only [Place.sub, List.nil_append] at this ⊢
    rwa [show rows.length + (i - rows.length) = i by omega] at this
end
end
end Go.Abs
