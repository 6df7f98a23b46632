/- What the functions that the law reaches answer, in plain data. -/
import Derived.Test.YteaaelhndaijoaaDoorAbs9
import Derived.Test.YteaaelhndaijoaaDoorE
import Derived.KernelRfl
import Derived.Test.YteaaelhndaijoaaDoorPrim
set_option linter.unusedVariables false
set_option maxRecDepth 100000
set_option maxHeartbeats 1000000
set_option linter.unusedSimpArgs false
namespace Go.Proofs.YteaaelhndaijoaaDoor.PT
section
open Go Go.Abs
abbrev BB := List UInt8
abbrev RR := List (List D)
inductive TT where
  | lf (k : Int) (nm : BB) (n : Int) (tx : BB)
  | un (k : Int) (a : TT)
  | bi (k : Int) (a b : TT)
def row (k : Int) (nm : BB) (n : Int) (tx : BB) (x y : Int) : List D := [.int .i64 k, .str nm, .int .i64 n, .str tx, .int .i64 x, .int .i64 y]
def TT.size : TT → Nat
  | .lf .. => 1
  | .un _ a => a.size + 1
  | .bi _ a b => a.size + b.size + 1
def TT.deep : TT → Nat
  | .lf .. => 1
  | .un _ a => a.deep + 1
  | .bi _ a b => max a.deep b.deep + 1
def TT.rows : TT → Nat → RR
  | .lf k nm n tx, _ => [row k nm n tx (-1) (-1)]
  | .un k a, b => a.rows b ++ [row k [] 0 [] ((b + a.size : Nat) - 1) (-1)]
  | .bi k a c, b => a.rows b ++ c.rows (b + a.size) ++ [row k [] 0 [] ((b + a.size : Nat) - 1) ((b + a.size + c.size : Nat) - 1)]
theorem TT.rows_length : ∀ (t : TT) (b : Nat), (t.rows b).length = t.size
  | .lf .., _ => rfl
  | .un k a, b => by simp [TT.rows, TT.size, TT.rows_length a]
  | .bi k a c, b => by simp [TT.rows, TT.size, TT.rows_length a, TT.rows_length c]; omega
theorem TT.size_pos : ∀ t : TT, 0 < t.size
  | .lf .. => by simp [TT.size]
  | .un .. => by simp [TT.size]
  | .bi .. => by simp [TT.size]
def TT.at_ (l : RR) : TT → Int → Prop
  | .lf k nm n tx, i => ∃ j : Nat, i = j ∧ l[j]? = some (row k nm n tx (-1) (-1))
  | .un k a, i => ∃ (j : Nat) (x : Int), i = j ∧ l[j]? = some (row k [] 0 [] x (-1)) ∧ a.at_ l x
  | .bi k a c, i => ∃ (j : Nat) (x y : Int), i = j ∧ l[j]? = some (row k [] 0 [] x y) ∧ a.at_ l x ∧ c.at_ l y
theorem TT.at_rows : ∀ (t : TT) (pre post : RR), t.at_ (pre ++ t.rows pre.length ++ post) ((pre.length + t.size : Nat) - 1)
  | .lf k nm n tx, pre, post => ⟨pre.length, by simp [TT.size], by simp [TT.rows]⟩
  | .un k a, pre, post => by
    have h := TT.at_rows a pre ([row k [] 0 [] ((pre.length + a.size : Nat) - 1) (-1)] ++ post)
    refine ⟨pre.length + a.size, ((pre.length + a.size : Nat) - 1), by simp [TT.size]; omega, ?_, ?_⟩
    · rw [TT.rows]
      rw [List.append_assoc, List.append_assoc, List.getElem?_append_right (by omega), List.getElem?_append_right (by rw [TT.rows_length]; omega), TT.rows_length]
      simp [show pre.length + a.size - pre.length - a.size = 0 by omega]
    · rw [TT.rows]
      simpa using h
  | .bi k a c, pre, post => by
    have h1 := TT.at_rows a pre (c.rows (pre.length + a.size) ++ [row k [] 0 [] ((pre.length + a.size : Nat) - 1) ((pre.length + a.size + c.size : Nat) - 1)] ++ post)
    have h2 := TT.at_rows c (pre ++ a.rows pre.length) ([row k [] 0 [] ((pre.length + a.size : Nat) - 1) ((pre.length + a.size + c.size : Nat) - 1)] ++ post)
    have hl : (pre ++ a.rows pre.length).length = pre.length + a.size := by simp [TT.rows_length]
    rw [hl] at h2
    refine ⟨pre.length + a.size + c.size, ((pre.length + a.size : Nat) - 1), ((pre.length + a.size + c.size : Nat) - 1), by simp [TT.size]; omega, ?_, ?_, ?_⟩
    · rw [TT.rows]
      have e : pre ++ (a.rows pre.length ++ c.rows (pre.length + a.size) ++ [row k [] 0 [] ((pre.length + a.size : Nat) - 1) ((pre.length + a.size + c.size : Nat) - 1)]) ++ post =
          (pre ++ a.rows pre.length ++ c.rows (pre.length + a.size)) ++ ([row k [] 0 [] ((pre.length + a.size : Nat) - 1) ((pre.length + a.size + c.size : Nat) - 1)] ++ post) := by simp
      rw [e, List.getElem?_append_right (by simp [TT.rows_length]; omega)]
      simp [TT.rows_length, show pre.length + a.size + c.size - (pre.length + (a.size + c.size)) = 0 by omega]
    · rw [TT.rows]
      simpa using h1
    · rw [TT.rows]
      simpa using h2
def sgn (k : Int) : BB :=
  if k = 6 then [43] else if k = 7 then [45] else if k = 8 then [42] else if k = 9 then [47] else if k = 10 then [109, 111, 100] else if k = 11 then [61, 61] else if k = 12 then [60]
  else if k = 13 then [97, 110, 100] else if k = 14 then [111, 114] else []
def cll (k : Int) : BB := if k = 16 then [108, 101, 110] else if k = 17 then [97, 116] else if k = 18 then [112, 117, 115, 104] else [106, 111, 105, 110]
def infx (k : Int) : Bool := decide (6 ≤ k) && decide (k ≤ 14)
end
end Go.Proofs.YteaaelhndaijoaaDoor.PT
namespace Go.Proofs.YteaaelhndaijoaaDoor
section
open Go Go.Abs
section
variable {R : Type}
theorem decBs1 (ds : List DS) (p : RowT ds) : decBs [ds] [bx ds p] = some (p, ()) := by
  have h := unbx_bx ds p
  unfold unbx at h
  simp only [decBs, h]
theorem res_b (b : Bool) (K : Bool × Unit → Option R) : tRes (.val (.one .bool) []) (some (.one (bC b), [])) K = K (b, ()) := rfl
theorem res_i (b : Int) (K : Int × Unit → Option R) : tRes (.val (.one (.int .i64)) []) (some (.one (iC b), [])) K = K (b, ()) := rfl
theorem res_s (b : BB) (K : BB × Unit → Option R) : tRes (.val (.one .str) []) (some (.one (sC b), [])) K = K (b, ()) := rfl
theorem res_bp {ds : List DS} (b : Bool) (p : RowT ds) (K : Bool × RowT ds × Unit → Option R) : tRes (.val (.one .bool) [ds]) (some (.one (bC b), [bx ds p])) K = K (b, p, ()) := by
  simp only [tRes, decR, decV, decD, decBs1]
theorem res_ip {ds : List DS} (b : Int) (p : RowT ds) (K : Int × RowT ds × Unit → Option R) : tRes (.val (.one (.int .i64)) [ds]) (some (.one (iC b), [bx ds p])) K = K (b, p, ()) := by
  simp only [tRes, decR, decV, decD, decBs1, if_true]
theorem res_sp {ds : List DS} (b : BB) (p : RowT ds) (K : BB × RowT ds × Unit → Option R) : tRes (.val (.one .str) [ds]) (some (.one (sC b), [bx ds p])) K = K (b, p, ()) := by
  simp only [tRes, decR, decV, decD, decBs1]
theorem res_up {ds : List DS} (p : RowT ds) (K : Unit × RowT ds × Unit → Option R) : tRes (.tup [] [ds]) (some (.tup [], [bx ds p])) K = K ((), p, ()) := by
  simp only [tRes, decR, decVs, decBs1]
theorem gd_t {b : Bool} {x : Option R} (h : b = true) : gd b x = x := by subst h; rfl
theorem bif_t {b : Bool} {x y : R} (h : b = true) : (bif b then x else y) = x := by subst h; rfl
theorem bif_f {b : Bool} {x y : R} (h : b = false) : (bif b then x else y) = y := by subst h; rfl
theorem qO_asI {z : Int} {n : Nat} (K : Nat → Option R) (h : z = (n : Int)) : qOpt (asI z) K = K n := by subst h; rw [asI_nat]; rfl
theorem qO {β : Type} {o : Option β} {b : β} (K : β → Option R) (h : o = some b) : qOpt o K = K b := by subst h; rfl
end
structure TK where
  k : Int
  s : BB
  a : Int
def cT (t : TK) : List D := [.int .i64 t.k, .str t.s, .int .i64 t.a]
section
variable {R : Type}
theorem rA_k {l : List TK} {i : Nat} {t : TK} (h : l[i]? = some t) (K : RowT [.int .i64] → Option R) : rA [.int .i64] 0 1 (l.map cT) i K = K (t.k, ()) := by
  simp only [rA, List.getElem?_map, h]; rfl
theorem rA_s {l : List TK} {i : Nat} {t : TK} (h : l[i]? = some t) (K : RowT [.str] → Option R) : rA [.str] 1 1 (l.map cT) i K = K (t.s, ()) := by
  simp only [rA, List.getElem?_map, h]; rfl
end
def tgs (r : RR) : Tag × RR := (match r with | [] => .im true | _ => .own, r)
def pB (l : List TK) (a e : Int) (nm : BB) (ps ts ss : Tag × RR) : RowT sh7 := ((false, l.map cT), a, e, -1, nm, ps, ts, ss, ())
def isB (l : List TK) (a : Nat) (s : BB) : Bool := match l[a]? with
  | some t => t.s == s && (t.k == 0 || t.k == 3)
  | none => false
section
variable (m : Nat) (l : List TK) (a : Nat) (e : Int) (nm : BB) (ps ts ss : Tag × RR)
theorem failed_ok : T (m + 1) fqx_ [pE] [bx sh7 (pB l a e nm ps ts ss)] = some (.one (bC false), [bx sh7 (pB l a e nm ps ts ss)]) := by
  rw [eqx_]; rfl
theorem more_ok : T (m + 2) fqs_ [pE] [bx sh7 (pB l a e nm ps ts ss)] = some (.one (bC (decide (a < l.length))), [bx sh7 (pB l a e nm ps ts ss)]) := by
  rw [eqs_]
  unfold tqs_
  rw [failed_ok, res_bp]
  show some (_, _) = _
  simp [pB, natI_eq]
theorem is_ok (s : BB) : T (m + 3) fqt_ [pE, .one (sC s)] [bx sh7 (pB l a e nm ps ts ss)] = some (.one (bC (isB l a s)), [bx sh7 (pB l a e nm ps ts ss)]) := by
  rw [eqt_]
  unfold tqt_
  rw [more_ok, res_bp]
  dsimp only [pB]
  unfold isB
  cases ht : l[a]? with
  | none =>
    have h : ¬ a < l.length := by rw [List.getElem?_eq_none_iff] at ht; omega
    rw [bif_f (by simpa using h)]
  | some t =>
    have h : a < l.length := (List.getElem?_eq_some_iff.1 ht).1
    rw [bif_t (by simpa using h), qO_asI _ rfl, rA_s ht]
    dsimp only
    cases hs : t.s == s with
    | false => rfl
    | true =>
      rw [bif_t rfl, qO_asI _ rfl, rA_k ht]
      dsimp only
      cases hk : t.k == 0 with
      | true => rfl
      | false => rw [bif_f rfl, qO_asI _ rfl, rA_k ht]; rfl
theorem take_no (s : BB) (h : isB l a s = false) : T (m + 4) fqp_ [pE, .one (sC s)] [bx sh7 (pB l a e nm ps ts ss)] = some (.one (bC false), [bx sh7 (pB l a e nm ps ts ss)]) := by
  rw [eqp_]
  unfold tqp_
  rw [is_ok, res_bp, h]
  rfl
theorem take_yes (s : BB) (h : isB l a s = true) (ha : a < 9223372036854775807) : T (m + 4) fqp_ [pE, .one (sC s)] [bx sh7 (pB l a e nm ps ts ss)] = some (.one (bC true), [bx sh7 (pB l (a + 1 : Nat) e nm ps ts ss)]) := by
  rw [eqp_]
  unfold tqp_
  rw [is_ok, res_bp, h]
  have h1 : w64 ((a : Int) + 1) = ((a + 1 : Nat) : Int) := by
    show IntKind.wrap .i64 _ = _
    rw [wrap_i64 (by omega) (by omega)]; simp
  dsimp only [pB]
  rw [h1]
  rfl
theorem need_yes (s : BB) (h : isB l a s = true) (ha : a < 9223372036854775807) : T (m + 5) fqu_ [pE, .one (sC s)] [bx sh7 (pB l a e nm ps ts ss)] = some (.tup [], [bx sh7 (pB l (a + 1 : Nat) e nm ps ts ss)]) := by
  rw [equ_]
  unfold tqu_
  rw [take_yes _ _ _ _ _ _ _ _ _ h ha, res_bp]
  rfl
end
end
section
open Go Go.Abs PT
section
variable (m : Nat) (l : List TK) (a : Nat) (e : Int) (nm : BB) (ps ss : Tag × RR) (ts : RR)
theorem w64_len (n : Nat) (h : n < 1000000) : w64 (((n + 1 : Nat) : Int) - 1) = (n : Int) := by
  show IntKind.wrap .i64 _ = _
  rw [wrap_i64 (by omega) (by omega)]
  omega
theorem room64 (n : Nat) (h : n < 100000) : (n == n && true && decide ((n + 1) * 64 ≤ 140737488355328)) = true := by
  have h1 : (n + 1) * 64 ≤ 140737488355328 := by omega
  rw [decide_eq_true h1, beq_self_eq_true]
  rfl
theorem put_ok (k : Int) (x : BB) (z : Int) (y : BB) (i j : Int) (hl : ts.length < 100000) :
    T (m + 2) fqk_ [pE, .agg [iC k, sC x, iC z, sC y, iC i, iC j]] [bx sh7 (pB l a e nm ps (tgs ts) ss)] =
      some (.one (iC (ts.length : Int)), [bx sh7 (pB l a e nm ps (tgs (ts ++ [row k x z y i j])) ss)]) := by
  rw [eqk_]
  unfold tqk_ ttqk_
  cases ts with
  | nil =>
    dsimp only [pB, tgs, tagI]
    rw [gd_t (show (true && true && true) = true from rfl), lqk__0_e0]
    rfl
  | cons t r =>
    dsimp only [pB, tgs, tagI]
    refine (gd_t (room64 _ hl)).trans ?_
    rw [lqk__0_e0]
    unfold wqk__0_0
    dsimp only [tagI]
    have h1 : natI (t :: r ++ [[D.int .i64 (0 : Int), D.str [], D.int .i64 (0 : Int), D.str [], D.int .i64 (0 : Int), D.int .i64 (0 : Int)]].set 0 [D.int .i64 k, D.str x, D.int .i64 z, D.str y, D.int .i64 i, D.int .i64 j]).length = (((t :: r).length + 1 : Nat) : Int) := by
      simp [natI_eq]
    rw [h1, w64_len _ (by omega)]
    rfl
theorem leaf_ok (k : Int) : T (m + 1) fqy_ [.one (iC k)] [] = some (.agg [iC k, sC [], iC 0, sC [], iC (-1), iC (-1)], []) := by
  rw [eqy_]; rfl
end
section
variable {R : Type}
theorem res_leaf (k : Int) (x : BB) (z : Int) (y : BB) (i j : Int) (K : (RowT [.int .i64, .str, .int .i64, .str, .int .i64, .int .i64]) × Unit → Option R) :
    tRes (.val (.agg [.int .i64, .str, .int .i64, .str, .int .i64, .int .i64]) []) (some (.agg [iC k, sC x, iC z, sC y, iC i, iC j], [])) K = K ((k, x, z, y, i, j, ()), ()) := rfl
end
end
section
open Go Go.Abs PT
abbrev fP (f : Nat) : V := .one (.fn f [(.ptr (.e 0) 0 0)] [])
theorem e_row (m : Nat) (x0 : Bool) (x1 : RR) (x2 : Bool) (x3 : RR) (x4 : RowT sh7) :
    T (m + 1) 82 [pE, fP 83, .one (lC (.im x0) 1 x1), .one (lC (.im x2) 1 x3)] [bx sh7 x4] = tq2_ (T m) m x0 x1 x2 x3 x4 := by
  rw [T_succ, show step (T m) m 82 = st82 (T m) m from rfl]
  unfold st82
  simp only [orF, unbx_bx, qOpt]
  try (generalize tq2_ (T m) m x0 x1 x2 x3 x4 = r; cases r <;> rfl)
theorem e_rowx1 (m : Nat) (x0 : Bool) (x1 : RR) (x2 : Bool) (x3 : RR) (x4 : RowT sh7) :
    T (m + 1) 82 [pE, fP 92, .one (lC (.im x0) 1 x1), .one (lC (.im x2) 1 x3)] [bx sh7 x4] = t_parse_rowx1 (T m) m x0 x1 x2 x3 x4 := by
  rw [T_succ, show step (T m) m 82 = st82 (T m) m from rfl]
  unfold st82
  simp only [orF, unbx_bx, qOpt]
  try (generalize t_parse_rowx1 (T m) m x0 x1 x2 x3 x4 = r; cases r <;> rfl)
theorem e_rowx2 (m : Nat) (x0 : Bool) (x1 : RR) (x2 : Bool) (x3 : RR) (x4 : RowT sh7) :
    T (m + 1) 82 [pE, fP 96, .one (lC (.im x0) 1 x1), .one (lC (.im x2) 1 x3)] [bx sh7 x4] = t_parse_rowx2 (T m) m x0 x1 x2 x3 x4 := by
  rw [T_succ, show step (T m) m 82 = st82 (T m) m from rfl]
  unfold st82
  simp only [orF, unbx_bx, qOpt]
  try (generalize t_parse_rowx2 (T m) m x0 x1 x2 x3 x4 = r; cases r <;> rfl)
theorem e_rowx3 (m : Nat) (x0 : Bool) (x1 : RR) (x2 : Bool) (x3 : RR) (x4 : RowT sh7) :
    T (m + 1) 82 [pE, fP 97, .one (lC (.im x0) 1 x1), .one (lC (.im x2) 1 x3)] [bx sh7 x4] = t_parse_rowx3 (T m) m x0 x1 x2 x3 x4 := by
  rw [T_succ, show step (T m) m 82 = st82 (T m) m from rfl]
  unfold st82
  simp only [orF, unbx_bx, qOpt]
  try (generalize t_parse_rowx3 (T m) m x0 x1 x2 x3 x4 = r; cases r <;> rfl)
section
variable {l : List TK} {a a' : Nat} {e : Int} {nm : BB} {ps ts ts' ss : Tag × RR}
theorem failed' (n : Nat) (hn : 1 ≤ n) : T n 18 [pE] [bx sh7 (pB l a e nm ps ts ss)] = some (.one (bC false), [bx sh7 (pB l a e nm ps ts ss)]) := by
  obtain ⟨m, rfl⟩ := Nat.exists_eq_add_of_le' hn
  exact failed_ok ..
theorem take_no' (n : Nat) (hn : 4 ≤ n) (s : BB) (h : isB l a s = false) : T n 13 [pE, .one (sC s)] [bx sh7 (pB l a e nm ps ts ss)] = some (.one (bC false), [bx sh7 (pB l a e nm ps ts ss)]) := by
  obtain ⟨m, rfl⟩ := Nat.exists_eq_add_of_le' hn
  exact take_no _ _ _ _ _ _ _ _ _ h
theorem take_yes' (n : Nat) (hn : 4 ≤ n) (s : BB) (h : isB l a s = true) (ha : a < 9223372036854775807) : T n 13 [pE, .one (sC s)] [bx sh7 (pB l a e nm ps ts ss)] = some (.one (bC true), [bx sh7 (pB l (a + 1 : Nat) e nm ps ts ss)]) := by
  obtain ⟨m, rfl⟩ := Nat.exists_eq_add_of_le' hn
  exact take_yes _ _ _ _ _ _ _ _ _ h ha
theorem put' (n : Nat) (hn : 2 ≤ n) {ts : RR} (k : Int) (x : BB) (z : Int) (y : BB) (i j : Int) (hl : ts.length < 100000) :
    T n 91 [pE, .agg [iC k, sC x, iC z, sC y, iC i, iC j]] [bx sh7 (pB l a e nm ps (tgs ts) ss)] =
      some (.one (iC (ts.length : Int)), [bx sh7 (pB l a e nm ps (tgs (ts ++ [row k x z y i j])) ss)]) := by
  obtain ⟨m, rfl⟩ := Nat.exists_eq_add_of_le' hn
  exact put_ok _ _ _ _ _ _ _ _ _ _ _ _ _ _ hl
theorem leaf' (n : Nat) (hn : 1 ≤ n) (k : Int) : T n 90 [.one (iC k)] [] = some (.agg [iC k, sC [], iC 0, sC [], iC (-1), iC (-1)], []) := by
  obtain ⟨m, rfl⟩ := Nat.exists_eq_add_of_le' hn
  exact leaf_ok ..
theorem row_end {i : Int} {m k : Nat} {x4 : RowT sh7} (h0 : isB l a [111, 114] = false) :
    lq2__0 (T (m + 7)) (m + 7) x4 (k + 1) (.s0 false [[.str [111, 114]]] false [[.int .i64 14]] (pB l a e nm ps ts ss) i) = some (.one (iC i), [bx sh7 (pB l a e nm ps ts ss)]) := by
  have t0 := take_no' (e := e) (nm := nm) (ps := ps) (ts := ts) (ss := ss) (m + 7) (by omega) [111, 114] h0
  have hf := failed' (l := l) (a := a) (e := e) (nm := nm) (ps := ps) (ts := ts) (ss := ss) (m + 7) (by omega)
  rw [lq2__0_e0]
  unfold wq2__0_0
  rw [hf, res_bp]
  dsimp only
  rw [bif_t (show (!false) = true from rfl), lq2__1_e0]
  change tRes _ (T (m + 7) 13 [pE, .one (sC [111, 114])] [bx sh7 (pB l a e nm ps ts ss)]) _ = _
  rw [t0, res_bp]
  dsimp only
  rw [bif_f rfl, lq2__1_e0]
  unfold wq2__1_0
  rw [bif_f (by decide), lq2__2_e0]
  rfl
theorem row_none {i : Int} {c : Nat} (hp : ∀ n, c ≤ n → T n 83 [pE] [bx sh7 (pB l a e nm ps ts ss)] = some (.one (iC i), [bx sh7 (pB l a' e nm ps ts' ss)]))
    (h0 : isB l a' [111, 114] = false) (n : Nat) (hn : c + 8 ≤ n) :
    T n 82 [pE, fP 83, .one (lC (.im false) 1 [[.str [111, 114]]]), .one (lC (.im false) 1 [[.int .i64 14]])] [bx sh7 (pB l a e nm ps ts ss)] =
      some (.one (iC i), [bx sh7 (pB l a' e nm ps ts' ss)]) := by
  obtain ⟨m, rfl⟩ : ∃ m, n = m + 8 := ⟨n - 8, by omega⟩
  rw [e_row]
  unfold tq2_ ttq2_
  rw [hp (m + 7) (by omega), res_ip]
  exact row_end h0
theorem row_one0 {i i2 : Int} {a2 c c2 : Nat} {us us' us2 : RR} (hp : ∀ n, c ≤ n → T n 83 [pE] [bx sh7 (pB l a e nm ps (tgs us) ss)] = some (.one (iC i), [bx sh7 (pB l a' e nm ps (tgs us') ss)]))
     (g0 : isB l a' [111, 114] = true) (ha : a' < 9223372036854775807)
    (hp2 : ∀ n, c2 ≤ n → T n 83 [pE] [bx sh7 (pB l (a' + 1 : Nat) e nm ps (tgs us') ss)] = some (.one (iC i2), [bx sh7 (pB l a2 e nm ps (tgs us2) ss)])) (hl : us2.length < 100000)
    (h0 : isB l a2 [111, 114] = false) (n : Nat) (hn : c + c2 + 8 ≤ n) :
    T n 82 [pE, fP 83, .one (lC (.im false) 1 [[.str [111, 114]]]), .one (lC (.im false) 1 [[.int .i64 14]])] [bx sh7 (pB l a e nm ps (tgs us) ss)] =
      some (.one (iC (us2.length : Int)), [bx sh7 (pB l a2 e nm ps (tgs (us2 ++ [row 14 [] 0 [] i i2])) ss)]) := by
  obtain ⟨m, rfl⟩ : ∃ m, n = m + 8 := ⟨n - 8, by omega⟩
  have s0 := take_yes' (e := e) (nm := nm) (ps := ps) (ts := tgs us') (ss := ss) (m + 7) (by omega) [111, 114] g0 ha
  have hf := failed' (l := l) (a := a') (e := e) (nm := nm) (ps := ps) (ts := tgs us') (ss := ss) (m + 7) (by omega)
  rw [e_row]
  unfold tq2_ ttq2_
  rw [hp (m + 7) (by omega), res_ip]
  dsimp only
  rw [lq2__0_e0]
  unfold wq2__0_0
  rw [hf, res_bp]
  dsimp only
  rw [bif_t (show (!false) = true from rfl), lq2__1_e0]
  change tRes _ (T (m + 7) 13 [pE, .one (sC [111, 114])] [bx sh7 (pB l a' e nm ps (tgs us') ss)]) _ = _
  rw [s0, res_bp]
  dsimp only
  rw [bif_t rfl]
  change lq2__2 (T (m + 7)) (m + 7) (pB l a e nm ps (tgs us) ss) (lq2__0 (T (m + 7)) (m + 7) (pB l a e nm ps (tgs us) ss) (m + 6)) (m + 7) (.s0 false [[.str [111, 114]]] false [[.int .i64 14]] (pB l (a' + 1 : Nat) e nm ps (tgs us') ss) i 14) = _
  rw [lq2__2_e0]
  unfold wq2__2_0
  rw [bif_f (by decide), leaf' (m + 7) (by omega), res_leaf]
  dsimp only
  rw [hp2 (m + 7) (by omega), res_ip]
  dsimp only
  rw [put' (m + 7) (by omega) _ _ _ _ _ _ hl, res_ip]
  exact row_end h0
theorem rowx1_end {i : Int} {m k : Nat} {x4 : RowT sh7} (h0 : isB l a [97, 110, 100] = false) :
    l_parse_rowx1_0 (T (m + 7)) (m + 7) x4 (k + 1) (.s0 false [[.str [97, 110, 100]]] false [[.int .i64 13]] (pB l a e nm ps ts ss) i) = some (.one (iC i), [bx sh7 (pB l a e nm ps ts ss)]) := by
  have t0 := take_no' (e := e) (nm := nm) (ps := ps) (ts := ts) (ss := ss) (m + 7) (by omega) [97, 110, 100] h0
  have hf := failed' (l := l) (a := a) (e := e) (nm := nm) (ps := ps) (ts := ts) (ss := ss) (m + 7) (by omega)
  rw [l_parse_rowx1_0_e0]
  unfold w_parse_rowx1_0_0
  rw [hf, res_bp]
  dsimp only
  rw [bif_t (show (!false) = true from rfl), l_parse_rowx1_1_e0]
  change tRes _ (T (m + 7) 13 [pE, .one (sC [97, 110, 100])] [bx sh7 (pB l a e nm ps ts ss)]) _ = _
  rw [t0, res_bp]
  dsimp only
  rw [bif_f rfl, l_parse_rowx1_1_e0]
  unfold w_parse_rowx1_1_0
  rw [bif_f (by decide), l_parse_rowx1_2_e0]
  rfl
theorem rowx1_none {i : Int} {c : Nat} (hp : ∀ n, c ≤ n → T n 92 [pE] [bx sh7 (pB l a e nm ps ts ss)] = some (.one (iC i), [bx sh7 (pB l a' e nm ps ts' ss)]))
    (h0 : isB l a' [97, 110, 100] = false) (n : Nat) (hn : c + 8 ≤ n) :
    T n 82 [pE, fP 92, .one (lC (.im false) 1 [[.str [97, 110, 100]]]), .one (lC (.im false) 1 [[.int .i64 13]])] [bx sh7 (pB l a e nm ps ts ss)] =
      some (.one (iC i), [bx sh7 (pB l a' e nm ps ts' ss)]) := by
  obtain ⟨m, rfl⟩ : ∃ m, n = m + 8 := ⟨n - 8, by omega⟩
  rw [e_rowx1]
  unfold t_parse_rowx1 tt_parse_rowx1
  rw [hp (m + 7) (by omega), res_ip]
  exact rowx1_end h0
theorem rowx1_one0 {i i2 : Int} {a2 c c2 : Nat} {us us' us2 : RR} (hp : ∀ n, c ≤ n → T n 92 [pE] [bx sh7 (pB l a e nm ps (tgs us) ss)] = some (.one (iC i), [bx sh7 (pB l a' e nm ps (tgs us') ss)]))
     (g0 : isB l a' [97, 110, 100] = true) (ha : a' < 9223372036854775807)
    (hp2 : ∀ n, c2 ≤ n → T n 92 [pE] [bx sh7 (pB l (a' + 1 : Nat) e nm ps (tgs us') ss)] = some (.one (iC i2), [bx sh7 (pB l a2 e nm ps (tgs us2) ss)])) (hl : us2.length < 100000)
    (h0 : isB l a2 [97, 110, 100] = false) (n : Nat) (hn : c + c2 + 8 ≤ n) :
    T n 82 [pE, fP 92, .one (lC (.im false) 1 [[.str [97, 110, 100]]]), .one (lC (.im false) 1 [[.int .i64 13]])] [bx sh7 (pB l a e nm ps (tgs us) ss)] =
      some (.one (iC (us2.length : Int)), [bx sh7 (pB l a2 e nm ps (tgs (us2 ++ [row 13 [] 0 [] i i2])) ss)]) := by
  obtain ⟨m, rfl⟩ : ∃ m, n = m + 8 := ⟨n - 8, by omega⟩
  have s0 := take_yes' (e := e) (nm := nm) (ps := ps) (ts := tgs us') (ss := ss) (m + 7) (by omega) [97, 110, 100] g0 ha
  have hf := failed' (l := l) (a := a') (e := e) (nm := nm) (ps := ps) (ts := tgs us') (ss := ss) (m + 7) (by omega)
  rw [e_rowx1]
  unfold t_parse_rowx1 tt_parse_rowx1
  rw [hp (m + 7) (by omega), res_ip]
  dsimp only
  rw [l_parse_rowx1_0_e0]
  unfold w_parse_rowx1_0_0
  rw [hf, res_bp]
  dsimp only
  rw [bif_t (show (!false) = true from rfl), l_parse_rowx1_1_e0]
  change tRes _ (T (m + 7) 13 [pE, .one (sC [97, 110, 100])] [bx sh7 (pB l a' e nm ps (tgs us') ss)]) _ = _
  rw [s0, res_bp]
  dsimp only
  rw [bif_t rfl]
  change l_parse_rowx1_2 (T (m + 7)) (m + 7) (pB l a e nm ps (tgs us) ss) (l_parse_rowx1_0 (T (m + 7)) (m + 7) (pB l a e nm ps (tgs us) ss) (m + 6)) (m + 7) (.s0 false [[.str [97, 110, 100]]] false [[.int .i64 13]] (pB l (a' + 1 : Nat) e nm ps (tgs us') ss) i 13) = _
  rw [l_parse_rowx1_2_e0]
  unfold w_parse_rowx1_2_0
  rw [bif_f (by decide), leaf' (m + 7) (by omega), res_leaf]
  dsimp only
  rw [hp2 (m + 7) (by omega), res_ip]
  dsimp only
  rw [put' (m + 7) (by omega) _ _ _ _ _ _ hl, res_ip]
  exact rowx1_end h0
theorem rowx2_end {i : Int} {m k : Nat} {x4 : RowT sh7} (h0 : isB l a [43] = false) (h1 : isB l a [45] = false) :
    l_parse_rowx2_0 (T (m + 7)) (m + 7) x4 (k + 1) (.s0 false [[.str [43]], [.str [45]]] false [[.int .i64 6], [.int .i64 7]] (pB l a e nm ps ts ss) i) = some (.one (iC i), [bx sh7 (pB l a e nm ps ts ss)]) := by
  have t0 := take_no' (e := e) (nm := nm) (ps := ps) (ts := ts) (ss := ss) (m + 7) (by omega) [43] h0
  have t1 := take_no' (e := e) (nm := nm) (ps := ps) (ts := ts) (ss := ss) (m + 7) (by omega) [45] h1
  have hf := failed' (l := l) (a := a) (e := e) (nm := nm) (ps := ps) (ts := ts) (ss := ss) (m + 7) (by omega)
  rw [l_parse_rowx2_0_e0]
  unfold w_parse_rowx2_0_0
  rw [hf, res_bp]
  dsimp only
  rw [bif_t (show (!false) = true from rfl), l_parse_rowx2_1_e0]
  change tRes _ (T (m + 7) 13 [pE, .one (sC [43])] [bx sh7 (pB l a e nm ps ts ss)]) _ = _
  rw [t0, res_bp]
  dsimp only
  rw [bif_f rfl, l_parse_rowx2_1_e0]
  change tRes _ (T (m + 7) 13 [pE, .one (sC [45])] [bx sh7 (pB l a e nm ps ts ss)]) _ = _
  rw [t1, res_bp]
  dsimp only
  rw [bif_f rfl, l_parse_rowx2_1_e0]
  unfold w_parse_rowx2_1_0
  rw [bif_f (by decide), l_parse_rowx2_2_e0]
  rfl
theorem rowx2_none {i : Int} {c : Nat} (hp : ∀ n, c ≤ n → T n 96 [pE] [bx sh7 (pB l a e nm ps ts ss)] = some (.one (iC i), [bx sh7 (pB l a' e nm ps ts' ss)]))
    (h0 : isB l a' [43] = false) (h1 : isB l a' [45] = false) (n : Nat) (hn : c + 8 ≤ n) :
    T n 82 [pE, fP 96, .one (lC (.im false) 1 [[.str [43]], [.str [45]]]), .one (lC (.im false) 1 [[.int .i64 6], [.int .i64 7]])] [bx sh7 (pB l a e nm ps ts ss)] =
      some (.one (iC i), [bx sh7 (pB l a' e nm ps ts' ss)]) := by
  obtain ⟨m, rfl⟩ : ∃ m, n = m + 8 := ⟨n - 8, by omega⟩
  rw [e_rowx2]
  unfold t_parse_rowx2 tt_parse_rowx2
  rw [hp (m + 7) (by omega), res_ip]
  exact rowx2_end h0 h1
theorem rowx2_one0 {i i2 : Int} {a2 c c2 : Nat} {us us' us2 : RR} (hp : ∀ n, c ≤ n → T n 96 [pE] [bx sh7 (pB l a e nm ps (tgs us) ss)] = some (.one (iC i), [bx sh7 (pB l a' e nm ps (tgs us') ss)]))
     (g0 : isB l a' [43] = true) (ha : a' < 9223372036854775807)
    (hp2 : ∀ n, c2 ≤ n → T n 96 [pE] [bx sh7 (pB l (a' + 1 : Nat) e nm ps (tgs us') ss)] = some (.one (iC i2), [bx sh7 (pB l a2 e nm ps (tgs us2) ss)])) (hl : us2.length < 100000)
    (h0 : isB l a2 [43] = false) (h1 : isB l a2 [45] = false) (n : Nat) (hn : c + c2 + 8 ≤ n) :
    T n 82 [pE, fP 96, .one (lC (.im false) 1 [[.str [43]], [.str [45]]]), .one (lC (.im false) 1 [[.int .i64 6], [.int .i64 7]])] [bx sh7 (pB l a e nm ps (tgs us) ss)] =
      some (.one (iC (us2.length : Int)), [bx sh7 (pB l a2 e nm ps (tgs (us2 ++ [row 6 [] 0 [] i i2])) ss)]) := by
  obtain ⟨m, rfl⟩ : ∃ m, n = m + 8 := ⟨n - 8, by omega⟩
  have s0 := take_yes' (e := e) (nm := nm) (ps := ps) (ts := tgs us') (ss := ss) (m + 7) (by omega) [43] g0 ha
  have hf := failed' (l := l) (a := a') (e := e) (nm := nm) (ps := ps) (ts := tgs us') (ss := ss) (m + 7) (by omega)
  rw [e_rowx2]
  unfold t_parse_rowx2 tt_parse_rowx2
  rw [hp (m + 7) (by omega), res_ip]
  dsimp only
  rw [l_parse_rowx2_0_e0]
  unfold w_parse_rowx2_0_0
  rw [hf, res_bp]
  dsimp only
  rw [bif_t (show (!false) = true from rfl), l_parse_rowx2_1_e0]
  change tRes _ (T (m + 7) 13 [pE, .one (sC [43])] [bx sh7 (pB l a' e nm ps (tgs us') ss)]) _ = _
  rw [s0, res_bp]
  dsimp only
  rw [bif_t rfl]
  change l_parse_rowx2_2 (T (m + 7)) (m + 7) (pB l a e nm ps (tgs us) ss) (l_parse_rowx2_0 (T (m + 7)) (m + 7) (pB l a e nm ps (tgs us) ss) (m + 6)) (m + 7) (.s0 false [[.str [43]], [.str [45]]] false [[.int .i64 6], [.int .i64 7]] (pB l (a' + 1 : Nat) e nm ps (tgs us') ss) i 6) = _
  rw [l_parse_rowx2_2_e0]
  unfold w_parse_rowx2_2_0
  rw [bif_f (by decide), leaf' (m + 7) (by omega), res_leaf]
  dsimp only
  rw [hp2 (m + 7) (by omega), res_ip]
  dsimp only
  rw [put' (m + 7) (by omega) _ _ _ _ _ _ hl, res_ip]
  exact rowx2_end h0 h1
theorem rowx2_one1 {i i2 : Int} {a2 c c2 : Nat} {us us' us2 : RR} (hp : ∀ n, c ≤ n → T n 96 [pE] [bx sh7 (pB l a e nm ps (tgs us) ss)] = some (.one (iC i), [bx sh7 (pB l a' e nm ps (tgs us') ss)]))
    (g0 : isB l a' [43] = false) (g1 : isB l a' [45] = true) (ha : a' < 9223372036854775807)
    (hp2 : ∀ n, c2 ≤ n → T n 96 [pE] [bx sh7 (pB l (a' + 1 : Nat) e nm ps (tgs us') ss)] = some (.one (iC i2), [bx sh7 (pB l a2 e nm ps (tgs us2) ss)])) (hl : us2.length < 100000)
    (h0 : isB l a2 [43] = false) (h1 : isB l a2 [45] = false) (n : Nat) (hn : c + c2 + 8 ≤ n) :
    T n 82 [pE, fP 96, .one (lC (.im false) 1 [[.str [43]], [.str [45]]]), .one (lC (.im false) 1 [[.int .i64 6], [.int .i64 7]])] [bx sh7 (pB l a e nm ps (tgs us) ss)] =
      some (.one (iC (us2.length : Int)), [bx sh7 (pB l a2 e nm ps (tgs (us2 ++ [row 7 [] 0 [] i i2])) ss)]) := by
  obtain ⟨m, rfl⟩ : ∃ m, n = m + 8 := ⟨n - 8, by omega⟩
  have s0 := take_no' (e := e) (nm := nm) (ps := ps) (ts := tgs us') (ss := ss) (m + 7) (by omega) [43] g0
  have s1 := take_yes' (e := e) (nm := nm) (ps := ps) (ts := tgs us') (ss := ss) (m + 7) (by omega) [45] g1 ha
  have hf := failed' (l := l) (a := a') (e := e) (nm := nm) (ps := ps) (ts := tgs us') (ss := ss) (m + 7) (by omega)
  rw [e_rowx2]
  unfold t_parse_rowx2 tt_parse_rowx2
  rw [hp (m + 7) (by omega), res_ip]
  dsimp only
  rw [l_parse_rowx2_0_e0]
  unfold w_parse_rowx2_0_0
  rw [hf, res_bp]
  dsimp only
  rw [bif_t (show (!false) = true from rfl), l_parse_rowx2_1_e0]
  change tRes _ (T (m + 7) 13 [pE, .one (sC [43])] [bx sh7 (pB l a' e nm ps (tgs us') ss)]) _ = _
  rw [s0, res_bp]
  dsimp only
  rw [bif_f rfl, l_parse_rowx2_1_e0]
  change tRes _ (T (m + 7) 13 [pE, .one (sC [45])] [bx sh7 (pB l a' e nm ps (tgs us') ss)]) _ = _
  rw [s1, res_bp]
  dsimp only
  rw [bif_t rfl]
  change l_parse_rowx2_2 (T (m + 7)) (m + 7) (pB l a e nm ps (tgs us) ss) (l_parse_rowx2_0 (T (m + 7)) (m + 7) (pB l a e nm ps (tgs us) ss) (m + 6)) (m + 7) (.s0 false [[.str [43]], [.str [45]]] false [[.int .i64 6], [.int .i64 7]] (pB l (a' + 1 : Nat) e nm ps (tgs us') ss) i 7) = _
  rw [l_parse_rowx2_2_e0]
  unfold w_parse_rowx2_2_0
  rw [bif_f (by decide), leaf' (m + 7) (by omega), res_leaf]
  dsimp only
  rw [hp2 (m + 7) (by omega), res_ip]
  dsimp only
  rw [put' (m + 7) (by omega) _ _ _ _ _ _ hl, res_ip]
  exact rowx2_end h0 h1
theorem rowx3_end {i : Int} {m k : Nat} {x4 : RowT sh7} (h0 : isB l a [42] = false) (h1 : isB l a [47] = false) (h2 : isB l a [109, 111, 100] = false) :
    l_parse_rowx3_0 (T (m + 7)) (m + 7) x4 (k + 1) (.s0 false [[.str [42]], [.str [47]], [.str [109, 111, 100]]] false [[.int .i64 8], [.int .i64 9], [.int .i64 10]] (pB l a e nm ps ts ss) i) = some (.one (iC i), [bx sh7 (pB l a e nm ps ts ss)]) := by
  have t0 := take_no' (e := e) (nm := nm) (ps := ps) (ts := ts) (ss := ss) (m + 7) (by omega) [42] h0
  have t1 := take_no' (e := e) (nm := nm) (ps := ps) (ts := ts) (ss := ss) (m + 7) (by omega) [47] h1
  have t2 := take_no' (e := e) (nm := nm) (ps := ps) (ts := ts) (ss := ss) (m + 7) (by omega) [109, 111, 100] h2
  have hf := failed' (l := l) (a := a) (e := e) (nm := nm) (ps := ps) (ts := ts) (ss := ss) (m + 7) (by omega)
  rw [l_parse_rowx3_0_e0]
  unfold w_parse_rowx3_0_0
  rw [hf, res_bp]
  dsimp only
  rw [bif_t (show (!false) = true from rfl), l_parse_rowx3_1_e0]
  change tRes _ (T (m + 7) 13 [pE, .one (sC [42])] [bx sh7 (pB l a e nm ps ts ss)]) _ = _
  rw [t0, res_bp]
  dsimp only
  rw [bif_f rfl, l_parse_rowx3_1_e0]
  change tRes _ (T (m + 7) 13 [pE, .one (sC [47])] [bx sh7 (pB l a e nm ps ts ss)]) _ = _
  rw [t1, res_bp]
  dsimp only
  rw [bif_f rfl, l_parse_rowx3_1_e0]
  change tRes _ (T (m + 7) 13 [pE, .one (sC [109, 111, 100])] [bx sh7 (pB l a e nm ps ts ss)]) _ = _
  rw [t2, res_bp]
  dsimp only
  rw [bif_f rfl, l_parse_rowx3_1_e0]
  unfold w_parse_rowx3_1_0
  rw [bif_f (by decide), l_parse_rowx3_2_e0]
  rfl
theorem rowx3_none {i : Int} {c : Nat} (hp : ∀ n, c ≤ n → T n 97 [pE] [bx sh7 (pB l a e nm ps ts ss)] = some (.one (iC i), [bx sh7 (pB l a' e nm ps ts' ss)]))
    (h0 : isB l a' [42] = false) (h1 : isB l a' [47] = false) (h2 : isB l a' [109, 111, 100] = false) (n : Nat) (hn : c + 8 ≤ n) :
    T n 82 [pE, fP 97, .one (lC (.im false) 1 [[.str [42]], [.str [47]], [.str [109, 111, 100]]]), .one (lC (.im false) 1 [[.int .i64 8], [.int .i64 9], [.int .i64 10]])] [bx sh7 (pB l a e nm ps ts ss)] =
      some (.one (iC i), [bx sh7 (pB l a' e nm ps ts' ss)]) := by
  obtain ⟨m, rfl⟩ : ∃ m, n = m + 8 := ⟨n - 8, by omega⟩
  rw [e_rowx3]
  unfold t_parse_rowx3 tt_parse_rowx3
  rw [hp (m + 7) (by omega), res_ip]
  exact rowx3_end h0 h1 h2
theorem rowx3_one0 {i i2 : Int} {a2 c c2 : Nat} {us us' us2 : RR} (hp : ∀ n, c ≤ n → T n 97 [pE] [bx sh7 (pB l a e nm ps (tgs us) ss)] = some (.one (iC i), [bx sh7 (pB l a' e nm ps (tgs us') ss)]))
     (g0 : isB l a' [42] = true) (ha : a' < 9223372036854775807)
    (hp2 : ∀ n, c2 ≤ n → T n 97 [pE] [bx sh7 (pB l (a' + 1 : Nat) e nm ps (tgs us') ss)] = some (.one (iC i2), [bx sh7 (pB l a2 e nm ps (tgs us2) ss)])) (hl : us2.length < 100000)
    (h0 : isB l a2 [42] = false) (h1 : isB l a2 [47] = false) (h2 : isB l a2 [109, 111, 100] = false) (n : Nat) (hn : c + c2 + 8 ≤ n) :
    T n 82 [pE, fP 97, .one (lC (.im false) 1 [[.str [42]], [.str [47]], [.str [109, 111, 100]]]), .one (lC (.im false) 1 [[.int .i64 8], [.int .i64 9], [.int .i64 10]])] [bx sh7 (pB l a e nm ps (tgs us) ss)] =
      some (.one (iC (us2.length : Int)), [bx sh7 (pB l a2 e nm ps (tgs (us2 ++ [row 8 [] 0 [] i i2])) ss)]) := by
  obtain ⟨m, rfl⟩ : ∃ m, n = m + 8 := ⟨n - 8, by omega⟩
  have s0 := take_yes' (e := e) (nm := nm) (ps := ps) (ts := tgs us') (ss := ss) (m + 7) (by omega) [42] g0 ha
  have hf := failed' (l := l) (a := a') (e := e) (nm := nm) (ps := ps) (ts := tgs us') (ss := ss) (m + 7) (by omega)
  rw [e_rowx3]
  unfold t_parse_rowx3 tt_parse_rowx3
  rw [hp (m + 7) (by omega), res_ip]
  dsimp only
  rw [l_parse_rowx3_0_e0]
  unfold w_parse_rowx3_0_0
  rw [hf, res_bp]
  dsimp only
  rw [bif_t (show (!false) = true from rfl), l_parse_rowx3_1_e0]
  change tRes _ (T (m + 7) 13 [pE, .one (sC [42])] [bx sh7 (pB l a' e nm ps (tgs us') ss)]) _ = _
  rw [s0, res_bp]
  dsimp only
  rw [bif_t rfl]
  change l_parse_rowx3_2 (T (m + 7)) (m + 7) (pB l a e nm ps (tgs us) ss) (l_parse_rowx3_0 (T (m + 7)) (m + 7) (pB l a e nm ps (tgs us) ss) (m + 6)) (m + 7) (.s0 false [[.str [42]], [.str [47]], [.str [109, 111, 100]]] false [[.int .i64 8], [.int .i64 9], [.int .i64 10]] (pB l (a' + 1 : Nat) e nm ps (tgs us') ss) i 8) = _
  rw [l_parse_rowx3_2_e0]
  unfold w_parse_rowx3_2_0
  rw [bif_f (by decide), leaf' (m + 7) (by omega), res_leaf]
  dsimp only
  rw [hp2 (m + 7) (by omega), res_ip]
  dsimp only
  rw [put' (m + 7) (by omega) _ _ _ _ _ _ hl, res_ip]
  exact rowx3_end h0 h1 h2
theorem rowx3_one1 {i i2 : Int} {a2 c c2 : Nat} {us us' us2 : RR} (hp : ∀ n, c ≤ n → T n 97 [pE] [bx sh7 (pB l a e nm ps (tgs us) ss)] = some (.one (iC i), [bx sh7 (pB l a' e nm ps (tgs us') ss)]))
    (g0 : isB l a' [42] = false) (g1 : isB l a' [47] = true) (ha : a' < 9223372036854775807)
    (hp2 : ∀ n, c2 ≤ n → T n 97 [pE] [bx sh7 (pB l (a' + 1 : Nat) e nm ps (tgs us') ss)] = some (.one (iC i2), [bx sh7 (pB l a2 e nm ps (tgs us2) ss)])) (hl : us2.length < 100000)
    (h0 : isB l a2 [42] = false) (h1 : isB l a2 [47] = false) (h2 : isB l a2 [109, 111, 100] = false) (n : Nat) (hn : c + c2 + 8 ≤ n) :
    T n 82 [pE, fP 97, .one (lC (.im false) 1 [[.str [42]], [.str [47]], [.str [109, 111, 100]]]), .one (lC (.im false) 1 [[.int .i64 8], [.int .i64 9], [.int .i64 10]])] [bx sh7 (pB l a e nm ps (tgs us) ss)] =
      some (.one (iC (us2.length : Int)), [bx sh7 (pB l a2 e nm ps (tgs (us2 ++ [row 9 [] 0 [] i i2])) ss)]) := by
  obtain ⟨m, rfl⟩ : ∃ m, n = m + 8 := ⟨n - 8, by omega⟩
  have s0 := take_no' (e := e) (nm := nm) (ps := ps) (ts := tgs us') (ss := ss) (m + 7) (by omega) [42] g0
  have s1 := take_yes' (e := e) (nm := nm) (ps := ps) (ts := tgs us') (ss := ss) (m + 7) (by omega) [47] g1 ha
  have hf := failed' (l := l) (a := a') (e := e) (nm := nm) (ps := ps) (ts := tgs us') (ss := ss) (m + 7) (by omega)
  rw [e_rowx3]
  unfold t_parse_rowx3 tt_parse_rowx3
  rw [hp (m + 7) (by omega), res_ip]
  dsimp only
  rw [l_parse_rowx3_0_e0]
  unfold w_parse_rowx3_0_0
  rw [hf, res_bp]
  dsimp only
  rw [bif_t (show (!false) = true from rfl), l_parse_rowx3_1_e0]
  change tRes _ (T (m + 7) 13 [pE, .one (sC [42])] [bx sh7 (pB l a' e nm ps (tgs us') ss)]) _ = _
  rw [s0, res_bp]
  dsimp only
  rw [bif_f rfl, l_parse_rowx3_1_e0]
  change tRes _ (T (m + 7) 13 [pE, .one (sC [47])] [bx sh7 (pB l a' e nm ps (tgs us') ss)]) _ = _
  rw [s1, res_bp]
  dsimp only
  rw [bif_t rfl]
  change l_parse_rowx3_2 (T (m + 7)) (m + 7) (pB l a e nm ps (tgs us) ss) (l_parse_rowx3_0 (T (m + 7)) (m + 7) (pB l a e nm ps (tgs us) ss) (m + 6)) (m + 7) (.s0 false [[.str [42]], [.str [47]], [.str [109, 111, 100]]] false [[.int .i64 8], [.int .i64 9], [.int .i64 10]] (pB l (a' + 1 : Nat) e nm ps (tgs us') ss) i 9) = _
  rw [l_parse_rowx3_2_e0]
  unfold w_parse_rowx3_2_0
  rw [bif_f (by decide), leaf' (m + 7) (by omega), res_leaf]
  dsimp only
  rw [hp2 (m + 7) (by omega), res_ip]
  dsimp only
  rw [put' (m + 7) (by omega) _ _ _ _ _ _ hl, res_ip]
  exact rowx3_end h0 h1 h2
theorem rowx3_one2 {i i2 : Int} {a2 c c2 : Nat} {us us' us2 : RR} (hp : ∀ n, c ≤ n → T n 97 [pE] [bx sh7 (pB l a e nm ps (tgs us) ss)] = some (.one (iC i), [bx sh7 (pB l a' e nm ps (tgs us') ss)]))
    (g0 : isB l a' [42] = false) (g1 : isB l a' [47] = false) (g2 : isB l a' [109, 111, 100] = true) (ha : a' < 9223372036854775807)
    (hp2 : ∀ n, c2 ≤ n → T n 97 [pE] [bx sh7 (pB l (a' + 1 : Nat) e nm ps (tgs us') ss)] = some (.one (iC i2), [bx sh7 (pB l a2 e nm ps (tgs us2) ss)])) (hl : us2.length < 100000)
    (h0 : isB l a2 [42] = false) (h1 : isB l a2 [47] = false) (h2 : isB l a2 [109, 111, 100] = false) (n : Nat) (hn : c + c2 + 8 ≤ n) :
    T n 82 [pE, fP 97, .one (lC (.im false) 1 [[.str [42]], [.str [47]], [.str [109, 111, 100]]]), .one (lC (.im false) 1 [[.int .i64 8], [.int .i64 9], [.int .i64 10]])] [bx sh7 (pB l a e nm ps (tgs us) ss)] =
      some (.one (iC (us2.length : Int)), [bx sh7 (pB l a2 e nm ps (tgs (us2 ++ [row 10 [] 0 [] i i2])) ss)]) := by
  obtain ⟨m, rfl⟩ : ∃ m, n = m + 8 := ⟨n - 8, by omega⟩
  have s0 := take_no' (e := e) (nm := nm) (ps := ps) (ts := tgs us') (ss := ss) (m + 7) (by omega) [42] g0
  have s1 := take_no' (e := e) (nm := nm) (ps := ps) (ts := tgs us') (ss := ss) (m + 7) (by omega) [47] g1
  have s2 := take_yes' (e := e) (nm := nm) (ps := ps) (ts := tgs us') (ss := ss) (m + 7) (by omega) [109, 111, 100] g2 ha
  have hf := failed' (l := l) (a := a') (e := e) (nm := nm) (ps := ps) (ts := tgs us') (ss := ss) (m + 7) (by omega)
  rw [e_rowx3]
  unfold t_parse_rowx3 tt_parse_rowx3
  rw [hp (m + 7) (by omega), res_ip]
  dsimp only
  rw [l_parse_rowx3_0_e0]
  unfold w_parse_rowx3_0_0
  rw [hf, res_bp]
  dsimp only
  rw [bif_t (show (!false) = true from rfl), l_parse_rowx3_1_e0]
  change tRes _ (T (m + 7) 13 [pE, .one (sC [42])] [bx sh7 (pB l a' e nm ps (tgs us') ss)]) _ = _
  rw [s0, res_bp]
  dsimp only
  rw [bif_f rfl, l_parse_rowx3_1_e0]
  change tRes _ (T (m + 7) 13 [pE, .one (sC [47])] [bx sh7 (pB l a' e nm ps (tgs us') ss)]) _ = _
  rw [s1, res_bp]
  dsimp only
  rw [bif_f rfl, l_parse_rowx3_1_e0]
  change tRes _ (T (m + 7) 13 [pE, .one (sC [109, 111, 100])] [bx sh7 (pB l a' e nm ps (tgs us') ss)]) _ = _
  rw [s2, res_bp]
  dsimp only
  rw [bif_t rfl]
  change l_parse_rowx3_2 (T (m + 7)) (m + 7) (pB l a e nm ps (tgs us) ss) (l_parse_rowx3_0 (T (m + 7)) (m + 7) (pB l a e nm ps (tgs us) ss) (m + 6)) (m + 7) (.s0 false [[.str [42]], [.str [47]], [.str [109, 111, 100]]] false [[.int .i64 8], [.int .i64 9], [.int .i64 10]] (pB l (a' + 1 : Nat) e nm ps (tgs us') ss) i 10) = _
  rw [l_parse_rowx3_2_e0]
  unfold w_parse_rowx3_2_0
  rw [bif_f (by decide), leaf' (m + 7) (by omega), res_leaf]
  dsimp only
  rw [hp2 (m + 7) (by omega), res_ip]
  dsimp only
  rw [put' (m + 7) (by omega) _ _ _ _ _ _ hl, res_ip]
  exact rowx3_end h0 h1 h2
end
end
section
open Go Go.Abs PT
def Res (l : List TK) (e : Int) (nm : BB) (ps ss : Tag × RR) (f c a : Nat) (us : RR) (i : Int) (a' : Nat) (us' : RR) : Prop :=
  ∀ n, c ≤ n → T n f [pE] [bx sh7 (pB l a e nm ps (tgs us) ss)] = some (.one (iC i), [bx sh7 (pB l a' e nm ps (tgs us') ss)])
section
variable {l : List TK} {e : Int} {nm : BB} {ps ss : Tag × RR} {c c2 a a' a2 : Nat} {us us' us2 : RR} {i i2 : Int}
theorem term_n (hp : Res l e nm ps ss 83 c a us i a' us') (h0 : isB l a' [111, 114] = false) : Res l e nm ps ss 69 (c + 9) a us i a' us' := by
  intro n hn
  obtain ⟨m, rfl⟩ : ∃ m, n = m + 1 := ⟨n - 1, by omega⟩
  rw [eqv_]
  unfold tqv_
  rw [row_none hp h0 m (by omega), res_ip]
theorem term_q0 (hp : Res l e nm ps ss 83 c a us i a' us') (g0 : isB l a' [111, 114] = true) (ha : a' < 9223372036854775807)
    (hp2 : Res l e nm ps ss 83 c2 (a' + 1) us' i2 a2 us2) (hl : us2.length < 100000) (h0 : isB l a2 [111, 114] = false) : Res l e nm ps ss 69 (c + c2 + 9) a us (us2.length : Int) a2 (us2 ++ [row 14 [] 0 [] i i2]) := by
  intro n hn
  obtain ⟨m, rfl⟩ : ∃ m, n = m + 1 := ⟨n - 1, by omega⟩
  rw [eqv_]
  unfold tqv_
  rw [row_one0 hp g0 ha hp2 hl h0 m (by omega), res_ip]
theorem also_n (hp : Res l e nm ps ss 92 c a us i a' us') (h0 : isB l a' [97, 110, 100] = false) : Res l e nm ps ss 83 (c + 9) a us i a' us' := by
  intro n hn
  obtain ⟨m, rfl⟩ : ∃ m, n = m + 1 := ⟨n - 1, by omega⟩
  rw [eqw_]
  unfold tqw_
  rw [rowx1_none hp h0 m (by omega), res_ip]
theorem also_q0 (hp : Res l e nm ps ss 92 c a us i a' us') (g0 : isB l a' [97, 110, 100] = true) (ha : a' < 9223372036854775807)
    (hp2 : Res l e nm ps ss 92 c2 (a' + 1) us' i2 a2 us2) (hl : us2.length < 100000) (h0 : isB l a2 [97, 110, 100] = false) : Res l e nm ps ss 83 (c + c2 + 9) a us (us2.length : Int) a2 (us2 ++ [row 13 [] 0 [] i i2]) := by
  intro n hn
  obtain ⟨m, rfl⟩ : ∃ m, n = m + 1 := ⟨n - 1, by omega⟩
  rw [eqw_]
  unfold tqw_
  rw [rowx1_one0 hp g0 ha hp2 hl h0 m (by omega), res_ip]
theorem sum_n (hp : Res l e nm ps ss 96 c a us i a' us') (h0 : isB l a' [43] = false) (h1 : isB l a' [45] = false) : Res l e nm ps ss 95 (c + 9) a us i a' us' := by
  intro n hn
  obtain ⟨m, rfl⟩ : ∃ m, n = m + 1 := ⟨n - 1, by omega⟩
  rw [eqr_]
  unfold tqr_
  rw [rowx2_none hp h0 h1 m (by omega), res_ip]
theorem sum_q0 (hp : Res l e nm ps ss 96 c a us i a' us') (g0 : isB l a' [43] = true) (ha : a' < 9223372036854775807)
    (hp2 : Res l e nm ps ss 96 c2 (a' + 1) us' i2 a2 us2) (hl : us2.length < 100000) (h0 : isB l a2 [43] = false) (h1 : isB l a2 [45] = false) : Res l e nm ps ss 95 (c + c2 + 9) a us (us2.length : Int) a2 (us2 ++ [row 6 [] 0 [] i i2]) := by
  intro n hn
  obtain ⟨m, rfl⟩ : ∃ m, n = m + 1 := ⟨n - 1, by omega⟩
  rw [eqr_]
  unfold tqr_
  rw [rowx2_one0 hp g0 ha hp2 hl h0 h1 m (by omega), res_ip]
theorem sum_q1 (hp : Res l e nm ps ss 96 c a us i a' us') (g0 : isB l a' [43] = false) (g1 : isB l a' [45] = true) (ha : a' < 9223372036854775807)
    (hp2 : Res l e nm ps ss 96 c2 (a' + 1) us' i2 a2 us2) (hl : us2.length < 100000) (h0 : isB l a2 [43] = false) (h1 : isB l a2 [45] = false) : Res l e nm ps ss 95 (c + c2 + 9) a us (us2.length : Int) a2 (us2 ++ [row 7 [] 0 [] i i2]) := by
  intro n hn
  obtain ⟨m, rfl⟩ : ∃ m, n = m + 1 := ⟨n - 1, by omega⟩
  rw [eqr_]
  unfold tqr_
  rw [rowx2_one1 hp g0 g1 ha hp2 hl h0 h1 m (by omega), res_ip]
theorem product_n (hp : Res l e nm ps ss 97 c a us i a' us') (h0 : isB l a' [42] = false) (h1 : isB l a' [47] = false) (h2 : isB l a' [109, 111, 100] = false) : Res l e nm ps ss 96 (c + 9) a us i a' us' := by
  intro n hn
  obtain ⟨m, rfl⟩ : ∃ m, n = m + 1 := ⟨n - 1, by omega⟩
  rw [eqo_]
  unfold tqo_
  rw [rowx3_none hp h0 h1 h2 m (by omega), res_ip]
theorem product_q0 (hp : Res l e nm ps ss 97 c a us i a' us') (g0 : isB l a' [42] = true) (ha : a' < 9223372036854775807)
    (hp2 : Res l e nm ps ss 97 c2 (a' + 1) us' i2 a2 us2) (hl : us2.length < 100000) (h0 : isB l a2 [42] = false) (h1 : isB l a2 [47] = false) (h2 : isB l a2 [109, 111, 100] = false) : Res l e nm ps ss 96 (c + c2 + 9) a us (us2.length : Int) a2 (us2 ++ [row 8 [] 0 [] i i2]) := by
  intro n hn
  obtain ⟨m, rfl⟩ : ∃ m, n = m + 1 := ⟨n - 1, by omega⟩
  rw [eqo_]
  unfold tqo_
  rw [rowx3_one0 hp g0 ha hp2 hl h0 h1 h2 m (by omega), res_ip]
theorem product_q1 (hp : Res l e nm ps ss 97 c a us i a' us') (g0 : isB l a' [42] = false) (g1 : isB l a' [47] = true) (ha : a' < 9223372036854775807)
    (hp2 : Res l e nm ps ss 97 c2 (a' + 1) us' i2 a2 us2) (hl : us2.length < 100000) (h0 : isB l a2 [42] = false) (h1 : isB l a2 [47] = false) (h2 : isB l a2 [109, 111, 100] = false) : Res l e nm ps ss 96 (c + c2 + 9) a us (us2.length : Int) a2 (us2 ++ [row 9 [] 0 [] i i2]) := by
  intro n hn
  obtain ⟨m, rfl⟩ : ∃ m, n = m + 1 := ⟨n - 1, by omega⟩
  rw [eqo_]
  unfold tqo_
  rw [rowx3_one1 hp g0 g1 ha hp2 hl h0 h1 h2 m (by omega), res_ip]
theorem product_q2 (hp : Res l e nm ps ss 97 c a us i a' us') (g0 : isB l a' [42] = false) (g1 : isB l a' [47] = false) (g2 : isB l a' [109, 111, 100] = true) (ha : a' < 9223372036854775807)
    (hp2 : Res l e nm ps ss 97 c2 (a' + 1) us' i2 a2 us2) (hl : us2.length < 100000) (h0 : isB l a2 [42] = false) (h1 : isB l a2 [47] = false) (h2 : isB l a2 [109, 111, 100] = false) : Res l e nm ps ss 96 (c + c2 + 9) a us (us2.length : Int) a2 (us2 ++ [row 10 [] 0 [] i i2]) := by
  intro n hn
  obtain ⟨m, rfl⟩ : ∃ m, n = m + 1 := ⟨n - 1, by omega⟩
  rw [eqo_]
  unfold tqo_
  rw [rowx3_one2 hp g0 g1 g2 ha hp2 hl h0 h1 h2 m (by omega), res_ip]
theorem no_n (hp : Res l e nm ps ss 95 c a us i a' us') (h0 : isB l a [110, 111, 116] = false) (h1 : isB l a' [61, 61] = false) (h2 : isB l a' [60] = false) : Res l e nm ps ss 92 (c + 6) a us i a' us' := by
  intro n hn
  obtain ⟨m, rfl⟩ : ∃ m, n = m + 6 := ⟨n - 6, by omega⟩
  rw [eqg_]
  unfold tqg_ ttqg_
  rw [take_no' (m + 5) (by omega) _ h0, res_bp]
  dsimp only
  rw [bif_f rfl, leaf' (m + 5) (by omega), res_leaf]
  dsimp only
  rw [hp (m + 5) (by omega), res_ip]
  dsimp only
  rw [take_no' (m + 5) (by omega) _ h1, res_bp]
  dsimp only
  rw [bif_f rfl, take_no' (m + 5) (by omega) _ h2, res_bp]
  dsimp only
  rw [bif_f rfl]
theorem no_eq (hp : Res l e nm ps ss 95 c a us i a' us') (h0 : isB l a [110, 111, 116] = false) (h1 : isB l a' [61, 61] = true) (ha : a' < 9223372036854775807)
    (hp2 : Res l e nm ps ss 95 c2 (a' + 1) us' i2 a2 us2) (hl : us2.length < 100000) : Res l e nm ps ss 92 (c + c2 + 6) a us (us2.length : Int) a2 (us2 ++ [row 11 [] 0 [] i i2]) := by
  intro n hn
  obtain ⟨m, rfl⟩ : ∃ m, n = m + 6 := ⟨n - 6, by omega⟩
  rw [eqg_]
  unfold tqg_ ttqg_
  rw [take_no' (m + 5) (by omega) _ h0, res_bp]
  dsimp only
  rw [bif_f rfl, leaf' (m + 5) (by omega), res_leaf]
  dsimp only
  rw [hp (m + 5) (by omega), res_ip]
  dsimp only
  rw [take_yes' (m + 5) (by omega) _ h1 ha, res_bp]
  dsimp only
  rw [bif_t rfl, lqg__0_e0]
  unfold wqg__0_0
  rw [hp2 (m + 5) (by omega), res_ip]
  dsimp only
  rw [put' (m + 5) (by omega) _ _ _ _ _ _ hl, res_ip]
theorem no_less (hp : Res l e nm ps ss 95 c a us i a' us') (h0 : isB l a [110, 111, 116] = false) (h1 : isB l a' [61, 61] = false) (h2 : isB l a' [60] = true) (ha : a' < 9223372036854775807)
    (hp2 : Res l e nm ps ss 95 c2 (a' + 1) us' i2 a2 us2) (hl : us2.length < 100000) : Res l e nm ps ss 92 (c + c2 + 6) a us (us2.length : Int) a2 (us2 ++ [row 12 [] 0 [] i i2]) := by
  intro n hn
  obtain ⟨m, rfl⟩ : ∃ m, n = m + 6 := ⟨n - 6, by omega⟩
  rw [eqg_]
  unfold tqg_ ttqg_
  rw [take_no' (m + 5) (by omega) _ h0, res_bp]
  dsimp only
  rw [bif_f rfl, leaf' (m + 5) (by omega), res_leaf]
  dsimp only
  rw [hp (m + 5) (by omega), res_ip]
  dsimp only
  rw [take_no' (m + 5) (by omega) _ h1, res_bp]
  dsimp only
  rw [bif_f rfl, take_yes' (m + 5) (by omega) _ h2 ha, res_bp]
  dsimp only
  rw [bif_t rfl, lqg__0_e0]
  unfold wqg__0_0
  rw [hp2 (m + 5) (by omega), res_ip]
  dsimp only
  rw [put' (m + 5) (by omega) _ _ _ _ _ _ hl, res_ip]
theorem no_not (h0 : isB l a [110, 111, 116] = true) (ha : a < 9223372036854775807) (hp : Res l e nm ps ss 92 c (a + 1) us i a' us') (hl : us'.length < 100000) :
    Res l e nm ps ss 92 (c + 6) a us (us'.length : Int) a' (us' ++ [row 15 [] 0 [] i (-1)]) := by
  intro n hn
  obtain ⟨m, rfl⟩ : ∃ m, n = m + 6 := ⟨n - 6, by omega⟩
  rw [eqg_]
  unfold tqg_ ttqg_
  rw [take_yes' (m + 5) (by omega) _ h0 ha, res_bp]
  dsimp only
  rw [bif_t rfl, leaf' (m + 5) (by omega), res_leaf]
  dsimp only
  rw [hp (m + 5) (by omega), res_ip]
  dsimp only
  rw [put' (m + 5) (by omega) _ _ _ _ _ _ hl, res_ip]
end
end
section
open Go Go.Abs PT
def ResI (l : List TK) (e : Int) (nm : BB) (ps ss : Tag × RR) (k : Int) (c a : Nat) (us : RR) (i : Int) (a' : Nat) (us' : RR) : Prop :=
  ∀ n, c ≤ n → T n 98 [pE, .one (iC k)] [bx sh7 (pB l a e nm ps (tgs us) ss)] = some (.one (iC i), [bx sh7 (pB l a' e nm ps (tgs us') ss)])
section
variable {l : List TK} {e : Int} {nm : BB} {ps ss ts : Tag × RR} {c c2 a a' a2 : Nat} {us us' us2 : RR} {i i2 : Int}
theorem need' (n : Nat) (hn : 5 ≤ n) (s : BB) (h : isB l a s = true) (ha : a < 9223372036854775807) : T n 33 [pE, .one (sC s)] [bx sh7 (pB l a e nm ps ts ss)] = some (.tup [], [bx sh7 (pB l (a + 1 : Nat) e nm ps ts ss)]) := by
  obtain ⟨m, rfl⟩ := Nat.exists_eq_add_of_le' hn
  exact need_yes _ _ _ _ _ _ _ _ _ h ha
theorem inner1 (h0 : isB l a [40] = true) (ha : a < 9223372036854775807) (hp : Res l e nm ps ss 69 c (a + 1) us i a' us') (h1 : isB l a' [41] = true) (ha' : a' < 9223372036854775807) (hl : us'.length < 100000) :
    ResI l e nm ps ss 16 (c + 7) a us (us'.length : Int) (a' + 1) (us' ++ [row 16 [] 0 [] i (-1)]) := by
  intro n hn
  obtain ⟨m, rfl⟩ : ∃ m, n = m + 7 := ⟨n - 7, by omega⟩
  rw [eqj_]
  unfold tqj_ ttqj_
  rw [leaf' (m + 6) (by omega), res_leaf]
  dsimp only
  rw [need' (m + 6) (by omega) _ h0 ha, res_up]
  dsimp only
  rw [hp (m + 6) (by omega), res_ip]
  dsimp only
  rw [bif_f (by decide), lqj__0_e0]
  unfold wqj__0_0
  rw [need' (m + 6) (by omega) _ h1 ha', res_up]
  dsimp only
  rw [put' (m + 6) (by omega) _ _ _ _ _ _ hl, res_ip]
theorem inner2 {k : Int} (hk : k ≠ 16) (h0 : isB l a [40] = true) (ha : a < 9223372036854775807) (hp : Res l e nm ps ss 69 c (a + 1) us i a' us') (h1 : isB l a' [44] = true) (ha' : a' < 9223372036854775807)
    (hp2 : Res l e nm ps ss 69 c2 (a' + 1) us' i2 a2 us2) (h2 : isB l a2 [41] = true) (ha2 : a2 < 9223372036854775807) (hl : us2.length < 100000) :
    ResI l e nm ps ss k (c + c2 + 7) a us (us2.length : Int) (a2 + 1) (us2 ++ [row k [] 0 [] i i2]) := by
  intro n hn
  obtain ⟨m, rfl⟩ : ∃ m, n = m + 7 := ⟨n - 7, by omega⟩
  have hb : (k != (16 : Int)) = true := by simpa using hk
  rw [eqj_]
  unfold tqj_ ttqj_
  rw [leaf' (m + 6) (by omega), res_leaf]
  dsimp only
  rw [need' (m + 6) (by omega) _ h0 ha, res_up]
  dsimp only
  rw [hp (m + 6) (by omega), res_ip]
  dsimp only
  rw [bif_t hb, need' (m + 6) (by omega) _ h1 ha', res_up]
  dsimp only
  rw [hp2 (m + 6) (by omega), res_ip]
  dsimp only
  rw [lqj__0_e0]
  unfold wqj__0_0
  rw [need' (m + 6) (by omega) _ h2 ha2, res_up]
  dsimp only
  rw [put' (m + 6) (by omega) _ _ _ _ _ _ hl, res_ip]
theorem small_0 (h : isB l a [116, 114, 117, 101] = true) (ha : a < 9223372036854775807) (hl : us.length < 100000) : Res l e nm ps ss 97 7 a us (us.length : Int) (a + 1) (us ++ [row 2 [] 1 [] (-1) (-1)]) := by
  intro n hn
  obtain ⟨m, rfl⟩ : ∃ m, n = m + 7 := ⟨n - 7, by omega⟩
  rw [eqa_]
  unfold tqa_ ttqa_
  rw [failed' (m + 6) (by omega), res_bp]
  dsimp only
  rw [bif_f rfl]
  rw [take_yes' (m + 6) (by omega) [116, 114, 117, 101] h ha, res_bp]
  dsimp only
  rw [bif_t rfl]
  rw [leaf' (m + 6) (by omega), res_leaf]
  dsimp only
  rw [put' (m + 6) (by omega) _ _ _ _ _ _ hl, res_ip]
theorem small_1 (hW : ∀ s ∈ ([[116, 114, 117, 101]] : List BB), isB l a s = false) (h : isB l a [102, 97, 108, 115, 101] = true) (ha : a < 9223372036854775807) (hl : us.length < 100000) : Res l e nm ps ss 97 7 a us (us.length : Int) (a + 1) (us ++ [row 2 [] 0 [] (-1) (-1)]) := by
  intro n hn
  obtain ⟨m, rfl⟩ : ∃ m, n = m + 7 := ⟨n - 7, by omega⟩
  rw [eqa_]
  unfold tqa_ ttqa_
  rw [failed' (m + 6) (by omega), res_bp]
  dsimp only
  rw [bif_f rfl]
  rw [take_no' (m + 6) (by omega) [116, 114, 117, 101] (hW _ (by simp)), res_bp]
  dsimp only
  rw [bif_f rfl]
  rw [take_yes' (m + 6) (by omega) [102, 97, 108, 115, 101] h ha, res_bp]
  dsimp only
  rw [bif_t rfl]
  rw [leaf' (m + 6) (by omega), res_leaf]
  dsimp only
  rw [put' (m + 6) (by omega) _ _ _ _ _ _ hl, res_ip]
theorem small_2 (hW : ∀ s ∈ ([[116, 114, 117, 101], [102, 97, 108, 115, 101]] : List BB), isB l a s = false) (h : isB l a [101, 109, 112, 116, 121] = true) (ha : a < 9223372036854775807) (hl : us.length < 100000) : Res l e nm ps ss 97 7 a us (us.length : Int) (a + 1) (us ++ [row 4 [] 0 [] (-1) (-1)]) := by
  intro n hn
  obtain ⟨m, rfl⟩ : ∃ m, n = m + 7 := ⟨n - 7, by omega⟩
  rw [eqa_]
  unfold tqa_ ttqa_
  rw [failed' (m + 6) (by omega), res_bp]
  dsimp only
  rw [bif_f rfl]
  iterate 2 (rw [take_no' (m + 6) (by omega) _ (hW _ ?_), res_bp]; dsimp only; rw [bif_f rfl])
  rw [take_yes' (m + 6) (by omega) [101, 109, 112, 116, 121] h ha, res_bp]
  dsimp only
  rw [bif_t rfl]
  rw [leaf' (m + 6) (by omega), res_leaf]
  dsimp only
  rw [put' (m + 6) (by omega) _ _ _ _ _ _ hl, res_ip]
  all_goals simp
theorem small_3 (hW : ∀ s ∈ ([[116, 114, 117, 101], [102, 97, 108, 115, 101], [101, 109, 112, 116, 121]] : List BB), isB l a s = false) (h : isB l a [117, 110, 105, 116] = true) (ha : a < 9223372036854775807) (hl : us.length < 100000) : Res l e nm ps ss 97 7 a us (us.length : Int) (a + 1) (us ++ [row 5 [] 0 [] (-1) (-1)]) := by
  intro n hn
  obtain ⟨m, rfl⟩ : ∃ m, n = m + 7 := ⟨n - 7, by omega⟩
  rw [eqa_]
  unfold tqa_ ttqa_
  rw [failed' (m + 6) (by omega), res_bp]
  dsimp only
  rw [bif_f rfl]
  iterate 3 (rw [take_no' (m + 6) (by omega) _ (hW _ ?_), res_bp]; dsimp only; rw [bif_f rfl])
  rw [take_yes' (m + 6) (by omega) [117, 110, 105, 116] h ha, res_bp]
  dsimp only
  rw [bif_t rfl]
  rw [leaf' (m + 6) (by omega), res_leaf]
  dsimp only
  rw [put' (m + 6) (by omega) _ _ _ _ _ _ hl, res_ip]
  all_goals simp
theorem small_4 (hW : ∀ s ∈ ([[116, 114, 117, 101], [102, 97, 108, 115, 101], [101, 109, 112, 116, 121], [117, 110, 105, 116]] : List BB), isB l a s = false) (h : isB l a [108, 101, 110] = true) (ha : a < 9223372036854775807) (hp : ResI l e nm ps ss 16 c (a + 1) us i a' us') : Res l e nm ps ss 97 (c + 7) a us i a' us' := by
  intro n hn
  obtain ⟨m, rfl⟩ : ∃ m, n = m + 7 := ⟨n - 7, by omega⟩
  rw [eqa_]
  unfold tqa_ ttqa_
  rw [failed' (m + 6) (by omega), res_bp]
  dsimp only
  rw [bif_f rfl]
  iterate 4 (rw [take_no' (m + 6) (by omega) _ (hW _ ?_), res_bp]; dsimp only; rw [bif_f rfl])
  rw [take_yes' (m + 6) (by omega) [108, 101, 110] h ha, res_bp]
  dsimp only
  rw [bif_t rfl]
  rw [hp (m + 6) (by omega), res_ip]
  all_goals simp
theorem small_5 (hW : ∀ s ∈ ([[116, 114, 117, 101], [102, 97, 108, 115, 101], [101, 109, 112, 116, 121], [117, 110, 105, 116], [108, 101, 110]] : List BB), isB l a s = false) (h : isB l a [97, 116] = true) (ha : a < 9223372036854775807) (hp : ResI l e nm ps ss 17 c (a + 1) us i a' us') : Res l e nm ps ss 97 (c + 7) a us i a' us' := by
  intro n hn
  obtain ⟨m, rfl⟩ : ∃ m, n = m + 7 := ⟨n - 7, by omega⟩
  rw [eqa_]
  unfold tqa_ ttqa_
  rw [failed' (m + 6) (by omega), res_bp]
  dsimp only
  rw [bif_f rfl]
  iterate 5 (rw [take_no' (m + 6) (by omega) _ (hW _ ?_), res_bp]; dsimp only; rw [bif_f rfl])
  rw [take_yes' (m + 6) (by omega) [97, 116] h ha, res_bp]
  dsimp only
  rw [bif_t rfl]
  rw [hp (m + 6) (by omega), res_ip]
  all_goals simp
theorem small_6 (hW : ∀ s ∈ ([[116, 114, 117, 101], [102, 97, 108, 115, 101], [101, 109, 112, 116, 121], [117, 110, 105, 116], [108, 101, 110], [97, 116]] : List BB), isB l a s = false) (h : isB l a [112, 117, 115, 104] = true) (ha : a < 9223372036854775807) (hp : ResI l e nm ps ss 18 c (a + 1) us i a' us') : Res l e nm ps ss 97 (c + 7) a us i a' us' := by
  intro n hn
  obtain ⟨m, rfl⟩ : ∃ m, n = m + 7 := ⟨n - 7, by omega⟩
  rw [eqa_]
  unfold tqa_ ttqa_
  rw [failed' (m + 6) (by omega), res_bp]
  dsimp only
  rw [bif_f rfl]
  iterate 6 (rw [take_no' (m + 6) (by omega) _ (hW _ ?_), res_bp]; dsimp only; rw [bif_f rfl])
  rw [take_yes' (m + 6) (by omega) [112, 117, 115, 104] h ha, res_bp]
  dsimp only
  rw [bif_t rfl]
  rw [hp (m + 6) (by omega), res_ip]
  all_goals simp
theorem small_7 (hW : ∀ s ∈ ([[116, 114, 117, 101], [102, 97, 108, 115, 101], [101, 109, 112, 116, 121], [117, 110, 105, 116], [108, 101, 110], [97, 116], [112, 117, 115, 104]] : List BB), isB l a s = false) (h : isB l a [106, 111, 105, 110] = true) (ha : a < 9223372036854775807) (hp : ResI l e nm ps ss 19 c (a + 1) us i a' us') : Res l e nm ps ss 97 (c + 7) a us i a' us' := by
  intro n hn
  obtain ⟨m, rfl⟩ : ∃ m, n = m + 7 := ⟨n - 7, by omega⟩
  rw [eqa_]
  unfold tqa_ ttqa_
  rw [failed' (m + 6) (by omega), res_bp]
  dsimp only
  rw [bif_f rfl]
  iterate 7 (rw [take_no' (m + 6) (by omega) _ (hW _ ?_), res_bp]; dsimp only; rw [bif_f rfl])
  rw [take_yes' (m + 6) (by omega) [106, 111, 105, 110] h ha, res_bp]
  dsimp only
  rw [bif_t rfl]
  rw [hp (m + 6) (by omega), res_ip]
  all_goals simp
theorem small_8 (hW : ∀ s ∈ ([[116, 114, 117, 101], [102, 97, 108, 115, 101], [101, 109, 112, 116, 121], [117, 110, 105, 116], [108, 101, 110], [97, 116], [112, 117, 115, 104], [106, 111, 105, 110]] : List BB), isB l a s = false) (h : isB l a [40] = true) (ha : a < 9223372036854775807) (hp : Res l e nm ps ss 69 c (a + 1) us i a' us') (h1 : isB l a' [41] = true) (ha' : a' < 9223372036854775807) : Res l e nm ps ss 97 (c + 7) a us i (a' + 1) us' := by
  intro n hn
  obtain ⟨m, rfl⟩ : ∃ m, n = m + 7 := ⟨n - 7, by omega⟩
  rw [eqa_]
  unfold tqa_ ttqa_
  rw [failed' (m + 6) (by omega), res_bp]
  dsimp only
  rw [bif_f rfl]
  iterate 8 (rw [take_no' (m + 6) (by omega) _ (hW _ ?_), res_bp]; dsimp only; rw [bif_f rfl])
  rw [take_yes' (m + 6) (by omega) [40] h ha, res_bp]
  dsimp only
  rw [bif_t rfl]
  rw [hp (m + 6) (by omega), res_ip]
  dsimp only
  rw [need' (m + 6) (by omega) _ h1 ha', res_up]
  all_goals simp
end
end
section
open Go Go.Abs PT
def kwB (s : BB) : Bool := (s == [97, 110, 100]) || ((s == [97, 115]) || ((s == [97, 116]) || ((s == [98, 111, 111, 108]) || ((s == [99, 97, 108, 108]) || ((s == [99, 104, 97, 110]) || ((s == [100, 114, 111, 112]) || ((s == [101, 108, 115, 101]) || ((s == [101, 109, 112, 116, 121]) || ((s == [101, 110, 100]) || ((s == [102, 97, 105, 108]) || ((s == [102, 97, 108, 115, 101]) || ((s == [102, 114, 111, 109]) || ((s == [104, 101, 97, 114]) || ((s == [105, 102]) || ((s == [105, 110, 116]) || ((s == [106, 111, 105, 110]) || ((s == [108, 101, 110]) || ((s == [108, 101, 116]) || ((s == [108, 105, 115, 116]) || ((s == [108, 111, 99, 97, 108]) || ((s == [108, 111, 115, 116]) || ((s == [109, 111, 100]) || ((s == [110, 111, 116]) || ((s == [111, 112, 101, 110]) || ((s == [111, 114]) || ((s == [112, 114, 105, 110, 116]) || ((s == [112, 114, 111, 99]) || ((s == [112, 114, 111, 116, 111, 99, 111, 108]) || ((s == [112, 117, 115, 104]) || ((s == [114, 111, 108, 101, 115]) || ((s == [115, 97, 121]) || ((s == [115, 112, 97, 119, 110]) || ((s == [115, 116, 111, 112]) || ((s == [116, 101, 120, 116]) || ((s == [116, 111]) || ((s == [116, 114, 117, 101]) || ((s == [117, 110, 105, 116]) || ((s == [119, 105, 116, 104]) || false))))))))))))))))))))))))))))))))))))))
theorem bif_or (b c : Bool) : (bif b then rT else some (.one (.d (.bool c)), [])) = (some (.one (.d (.bool (b || c))), []) : OR) := by cases b <;> rfl
theorem keyword_ok (n : Nat) (hn : 2 ≤ n) (s : BB) : T n 43 [.one (sC s)] [] = some (.one (bC (kwB s)), []) := by
  obtain ⟨m, rfl⟩ := Nat.exists_eq_add_of_le' hn
  rw [eqm_]
  unfold tqm_ ttqm_
  rw [lqm__0_e0]
  unfold wqm__0_0
  rw [show rF = (some (.one (.d (.bool false)), []) : OR) from rfl]
  simp only [bif_or]
  rfl
def isLet (c : UInt8) : Bool := decide (97 ≤ c.toNat) && decide (c.toNat ≤ 122)
def isDig (c : UInt8) : Bool := decide (48 ≤ c.toNat) && decide (c.toNat ≤ 57)
theorem rng_ok (x : Nat) (lo hi : Int) : (bif decide (natI x ≥ lo) then (some (.one (bC (decide (natI x ≤ hi))), []) : OR) else rF) = some (.one (bC (decide (lo ≤ natI x) && decide (natI x ≤ hi))), []) := by
  by_cases h : lo ≤ natI x
  · rw [bif_t (by simpa using h), decide_eq_true h]; rfl
  · rw [bif_f (by simpa using h), decide_eq_false h]; rfl
theorem let_eq (c : UInt8) : (decide ((97 : Int) ≤ natI c.toNat) && decide (natI c.toNat ≤ (122 : Int))) = isLet c := by
  unfold isLet; rw [natI_eq]; congr 1 <;> exact decide_eq_decide.2 (by omega)
theorem dig_eq (c : UInt8) : (decide ((48 : Int) ≤ natI c.toNat) && decide (natI c.toNat ≤ (57 : Int))) = isDig c := by
  unfold isDig; rw [natI_eq]; congr 1 <;> exact decide_eq_decide.2 (by omega)
theorem nletter_ok (n : Nat) (hn : 1 ≤ n) (c : UInt8) : T n 42 [.one (.d (.int .u8 (natI c.toNat)))] [] = some (.one (bC (isLet c)), []) := by
  obtain ⟨m, rfl⟩ := Nat.exists_eq_add_of_le' hn
  rw [eq1f_]; unfold tq1f_
  rw [← let_eq]; exact rng_ok _ _ _
theorem ndigit_ok (n : Nat) (hn : 1 ≤ n) (c : UInt8) : T n 44 [.one (.d (.int .u8 (natI c.toNat)))] [] = some (.one (bC (isDig c)), []) := by
  obtain ⟨m, rfl⟩ := Nat.exists_eq_add_of_le' hn
  rw [eq1g_]; unfold tq1g_
  rw [← dig_eq]; exact rng_ok _ _ _
theorem lletter_ok (n : Nat) (hn : 1 ≤ n) (c : UInt8) : T n 26 [.one (.d (.int .u8 (natI c.toNat)))] [] = some (.one (bC (isLet c)), []) := by
  obtain ⟨m, rfl⟩ := Nat.exists_eq_add_of_le' hn
  rw [eq18_]; unfold tq18_
  rw [← let_eq]; exact rng_ok _ _ _
theorem ldigit_ok (n : Nat) (hn : 1 ≤ n) (c : UInt8) : T n 22 [.one (.d (.int .u8 (natI c.toNat)))] [] = some (.one (bC (isDig c)), []) := by
  obtain ⟨m, rfl⟩ := Nat.exists_eq_add_of_le' hn
  rw [eq16_]; unfold tq16_
  rw [← dig_eq]; exact rng_ok _ _ _
end
section
open Go Go.Abs PT
def isLD (c : UInt8) : Bool := isLet c || isDig c
def mayB : BB → Bool
  | [] => false
  | c :: r => decide (r.length + 1 ≤ 12) && isLet c && !(kwB (c :: r)) && r.all isLD
theorem w64_succ (i : Nat) (h : i < 1000000) : w64 ((i : Int) + 1) = ((i + 1 : Nat) : Int) := by
  show IntKind.wrap .i64 _ = _
  rw [wrap_i64 (by omega) (by omega)]
  simp
theorem may_loop (n : Nat) (hn : 1 ≤ n) (q : Nat) (s : BB) (hs : s.length < 100000) : ∀ (k i : Nat), s.length - i < k → lq9__0 (T n) q k (.s0 s (i : Int)) = some (.one (bC ((s.drop i).all isLD)), [])
  | 0, i, hk => by omega
  | k + 1, i, hk => by
    rw [lq9__0_e0]
    unfold wq9__0_0
    by_cases h : i < s.length
    · have hc : s[i]? = some s[i] := List.getElem?_eq_getElem h
      have hd : s.drop i = s[i] :: s.drop (i + 1) := List.drop_eq_getElem_cons h
      have ih := may_loop n hn q s hs k (i + 1) (by omega)
      rw [hd, List.all_cons]
      generalize s[i] = c at hc hd
      rw [bif_t (by simp [natI_eq]; omega), qO_asI _ rfl, qO _ hc, nletter_ok n hn, res_b]
      dsimp only
      cases hl : isLet c with
      | true =>
        rw [bif_f (show (!true) = false from rfl), w64_succ i (by omega), ih]
        simp [isLD, hl]
      | false =>
        rw [bif_t (show (!false) = true from rfl), qO_asI _ rfl, qO _ hc, ndigit_ok n hn, res_b]
        dsimp only
        cases hg : isDig c with
        | true =>
          rw [bif_f (show (!true) = false from rfl), w64_succ i (by omega), ih]
          simp [isLD, hl, hg]
        | false =>
          rw [bif_t (show (!false) = true from rfl)]
          simp [isLD, hl, hg]
    · rw [bif_f (by simp [natI_eq]; omega), List.drop_eq_nil_of_le (by omega)]
      rfl
theorem may_ok (n : Nat) (hn : 20 ≤ n) (s : BB) : T n 21 [.one (sC s)] [] = some (.one (bC (mayB s)), []) := by
  obtain ⟨m, rfl⟩ : ∃ m, n = m + 20 := ⟨n - 20, by omega⟩
  rw [eq9_]
  unfold tq9_ ttq9_
  cases s with
  | nil => rfl
  | cons c r =>
    have h1 : natI (c :: r).length = ((r.length + 1 : Nat) : Int) := by simp [natI_eq]
    rw [h1, bif_f (by simp; omega)]
    by_cases h : r.length + 1 ≤ 12
    · rw [bif_f (by simp; omega), qO (o := (c :: r)[Int.toNat 0]?) (b := c) _ rfl, nletter_ok (m + 19) (by omega), res_b]
      dsimp only
      rw [show mayB (c :: r) = (decide (r.length + 1 ≤ 12) && isLet c && !(kwB (c :: r)) && r.all isLD) from rfl, decide_eq_true h]
      cases hl : isLet c with
      | false => rfl
      | true =>
        rw [bif_f (show (!true) = false from rfl), keyword_ok (m + 19) (by omega), res_b]
        dsimp only
        cases hk : kwB (c :: r) with
        | true => rfl
        | false =>
          rw [bif_f rfl, lq9__1_e0]
          unfold wq9__1_0
          rw [show (1 : Int) = ((1 : Nat) : Int) from rfl, may_loop (m + 19) (by omega) _ (c :: r) (by simp; omega) _ _ (by simp; omega)]
          rfl
    · rw [bif_t (by simp; omega)]
      rw [show mayB (c :: r) = (decide (r.length + 1 ≤ 12) && isLet c && !(kwB (c :: r)) && r.all isLD) from rfl, decide_eq_false h]
      rfl
end
section
open Go Go.Abs PT
section
variable {l : List TK} {e : Int} {nm : BB} {ps ss ts : Tag × RR} {c c2 a a' a2 : Nat} {us us' us2 : RR} {i i2 : Int} {t : TK}
theorem more' (n : Nat) (hn : 2 ≤ n) : T n 12 [pE] [bx sh7 (pB l a e nm ps ts ss)] = some (.one (bC (decide (a < l.length))), [bx sh7 (pB l a e nm ps ts ss)]) := by
  obtain ⟨m, rfl⟩ := Nat.exists_eq_add_of_le' hn
  exact more_ok ..
theorem isName' (n : Nat) (hn : 30 ≤ n) (ht : l[a]? = some t) : T n 49 [pE] [bx sh7 (pB l a e nm ps ts ss)] = some (.one (bC (t.k == 0 && mayB t.s)), [bx sh7 (pB l a e nm ps ts ss)]) := by
  obtain ⟨m, rfl⟩ : ∃ m, n = m + 30 := ⟨n - 30, by omega⟩
  have h : a < l.length := (List.getElem?_eq_some_iff.1 ht).1
  rw [eq1e_]
  unfold tq1e_
  rw [more' (m + 29) (by omega), res_bp]
  dsimp only [pB]
  rw [bif_t (by simpa using h), qO_asI _ rfl, rA_k ht]
  dsimp only
  cases hk : t.k == 0 with
  | false => rfl
  | true =>
    rw [bif_t rfl, qO_asI _ rfl, rA_s ht]
    dsimp only
    rw [may_ok (m + 29) (by omega), res_b]
    rfl
theorem w64_back (a : Nat) (h : a < 1000000) : w64 (w64 ((a : Int) + 1) - 1) = (a : Int) := by
  rw [w64_succ a h]
  exact w64_len a h
theorem name' (n : Nat) (hn : 31 ≤ n) (ht : l[a]? = some t) (hk : t.k = 0) (hm : mayB t.s = true) (ha : a < 1000000) :
    T n 32 [pE] [bx sh7 (pB l a e nm ps ts ss)] = some (.one (sC t.s), [bx sh7 (pB l (a + 1 : Nat) e nm ps ts ss)]) := by
  obtain ⟨m, rfl⟩ : ∃ m, n = m + 31 := ⟨n - 31, by omega⟩
  rw [eq19_]
  unfold tq19_
  rw [isName' (m + 30) (by omega) ht, res_bp, hk, hm]
  dsimp only [pB]
  rw [bif_f (by rfl), qO_asI _ (w64_back a ha), rA_s ht]
  dsimp only
  rw [w64_succ a ha]
theorem small_var (ht : l[a]? = some t) (hW : ∀ s ∈ ([[116, 114, 117, 101], [102, 97, 108, 115, 101], [101, 109, 112, 116, 121], [117, 110, 105, 116], [108, 101, 110], [97, 116], [112, 117, 115, 104], [106, 111, 105, 110], [40]] : List BB), isB l a s = false) (ha : a < 1000000) (hl : us.length < 100000) (hk : t.k = 0) (hm : mayB t.s = true) : Res l e nm ps ss 97 40 a us (us.length : Int) (a + 1) (us ++ [row 0 t.s 0 [] (-1) (-1)]) := by
  intro n hn
  obtain ⟨m, rfl⟩ : ∃ m, n = m + 40 := ⟨n - 40, by omega⟩
  rw [eqa_]
  unfold tqa_ ttqa_
  rw [failed' (m + 39) (by omega), res_bp]
  dsimp only
  rw [bif_f rfl]
  iterate 9 (rw [take_no' (m + 39) (by omega) _ (hW _ ?_), res_bp]; dsimp only; rw [bif_f rfl])
  rw [isName' (m + 39) (by omega) ht, res_bp, hk, hm]
  dsimp only
  rw [bif_t (by rfl), leaf' (m + 39) (by omega), res_leaf]
  dsimp only
  rw [name' (m + 39) (by omega) ht hk hm ha, res_sp]
  dsimp only
  rw [put' (m + 39) (by omega) _ _ _ _ _ _ hl, res_ip]
  all_goals simp
theorem parseInt' (n : Nat) (hn : 1 ≤ n) (s : BB) (hs : s.length ≤ 281474976710656) {z : Int} (h : Lib.parseIntB 64 s = .ok z) : T n 45 [.one (sC s), .one (iC 10), .one (iC 64)] [] = some (.tup [.one (iC z), .one .nili], []) := by
  obtain ⟨m, rfl⟩ := Nat.exists_eq_add_of_le' hn
  rw [T_succ]
  show (if (10 : Int) = 10 ∧ (64 : Int) = 64 ∧ s.length ≤ 281474976710656 then some (ofEnd (Lib.intSat 64 s) (Lib.parseIntB 64 s), []) else none) = _
  rw [if_pos ⟨rfl, rfl, hs⟩, h]
theorem res_err (z : Int) (K : (Int × Bool × Unit) × Unit → Option (V × List (List C))) : tRes (.tup [.one (.int .i64), .ifc] []) (some (.tup [.one (iC z), .one .nili], [])) K = K ((z, true, ()), ()) := rfl
theorem small_num (ht : l[a]? = some t) (hW : ∀ s ∈ ([[116, 114, 117, 101], [102, 97, 108, 115, 101], [101, 109, 112, 116, 121], [117, 110, 105, 116], [108, 101, 110], [97, 116], [112, 117, 115, 104], [106, 111, 105, 110], [40]] : List BB), isB l a s = false) (ha : a < 1000000) (hl : us.length < 100000) (hk : t.k = 1) (hs : t.s.length ≤ 281474976710656) {z : Int} (hz : Lib.parseIntB 64 t.s = .ok z) : Res l e nm ps ss 97 40 a us (us.length : Int) (a + 1) (us ++ [row 1 [] z [] (-1) (-1)]) := by
  intro n hn
  obtain ⟨m, rfl⟩ : ∃ m, n = m + 40 := ⟨n - 40, by omega⟩
  rw [eqa_]
  unfold tqa_ ttqa_
  rw [failed' (m + 39) (by omega), res_bp]
  dsimp only
  rw [bif_f rfl]
  iterate 9 (rw [take_no' (m + 39) (by omega) _ (hW _ ?_), res_bp]; dsimp only; rw [bif_f rfl])
  have h : a < l.length := (List.getElem?_eq_some_iff.1 ht).1
  rw [isName' (m + 39) (by omega) ht, res_bp, hk]
  dsimp only
  rw [bif_f (by rfl), more' (m + 39) (by omega), res_bp]
  dsimp only [pB]
  rw [bif_t (by simpa using h), qO_asI _ rfl, rA_k ht]
  dsimp only
  rw [hk, bif_t (by rfl), leaf' (m + 39) (by omega), res_leaf]
  dsimp only
  rw [qO_asI _ rfl, rA_s ht]
  dsimp only
  rw [parseInt' (m + 39) (by omega) _ hs hz, res_err]
  dsimp only
  rw [bif_t rfl, w64_succ a ha]
  have hp := put' (l := l) (a := a + 1) (e := e) (nm := nm) (ps := ps) (ss := ss) (m + 39) (by omega) 1 [] z [] (-1) (-1) hl
  unfold pB at hp
  rw [hp, res_ip]
  all_goals simp
theorem small_text (ht : l[a]? = some t) (hW : ∀ s ∈ ([[116, 114, 117, 101], [102, 97, 108, 115, 101], [101, 109, 112, 116, 121], [117, 110, 105, 116], [108, 101, 110], [97, 116], [112, 117, 115, 104], [106, 111, 105, 110], [40]] : List BB), isB l a s = false) (ha : a < 1000000) (hl : us.length < 100000) (hk : t.k = 2) : Res l e nm ps ss 97 40 a us (us.length : Int) (a + 1) (us ++ [row 3 [] 0 t.s (-1) (-1)]) := by
  intro n hn
  obtain ⟨m, rfl⟩ : ∃ m, n = m + 40 := ⟨n - 40, by omega⟩
  rw [eqa_]
  unfold tqa_ ttqa_
  rw [failed' (m + 39) (by omega), res_bp]
  dsimp only
  rw [bif_f rfl]
  iterate 9 (rw [take_no' (m + 39) (by omega) _ (hW _ ?_), res_bp]; dsimp only; rw [bif_f rfl])
  have h : a < l.length := (List.getElem?_eq_some_iff.1 ht).1
  have hmo := more' (l := l) (a := a) (e := e) (nm := nm) (ps := ps) (ts := tgs us) (ss := ss) (m + 39) (by omega)
  unfold pB at hmo
  rw [isName' (m + 39) (by omega) ht, res_bp, hk]
  dsimp only
  rw [bif_f (by rfl), more' (m + 39) (by omega), res_bp]
  dsimp only [pB]
  rw [bif_t (by simpa using h), qO_asI _ rfl, rA_k ht]
  dsimp only
  rw [hk, bif_f (by rfl), hmo, res_bp]
  dsimp only
  rw [bif_t (by simpa using h), qO_asI _ rfl, rA_k ht]
  dsimp only
  rw [hk, bif_t (by rfl), leaf' (m + 39) (by omega), res_leaf]
  dsimp only
  rw [qO_asI _ rfl, rA_s ht]
  dsimp only
  rw [w64_succ a ha]
  have hp := put' (l := l) (a := a + 1) (e := e) (nm := nm) (ps := ps) (ss := ss) (m + 39) (by omega) 3 [] 0 t.s (-1) (-1) hl
  unfold pB at hp
  rw [hp, res_ip]
  all_goals simp
end
end
section
open Go Go.Abs PT
def sk (k : Int) : Int := if k = 10 ∨ k = 13 ∨ k = 14 then 0 else 3
def tkOf : TT → List (Int × BB)
  | .lf k nm n tx => if k = 0 then [(0, nm)] else if k = 1 then [(1, itoaK n)] else if k = 2 then (if n = 1 then [(0, [116, 114, 117, 101])] else [(0, [102, 97, 108, 115, 101])])
      else if k = 3 then [(2, tx)] else if k = 4 then [(0, [101, 109, 112, 116, 121])] else [(0, [117, 110, 105, 116])]
  | .un k a => if k = 15 then (3, [40]) :: (0, [110, 111, 116]) :: (tkOf a ++ [(3, [41])]) else (0, [108, 101, 110]) :: (3, [40]) :: (tkOf a ++ [(3, [41])])
  | .bi k a b => if infx k = true then (3, [40]) :: (tkOf a ++ (sk k, sgn k) :: (tkOf b ++ [(3, [41])])) else (0, cll k) :: (3, [40]) :: (tkOf a ++ (3, [44]) :: (tkOf b ++ [(3, [41])]))
def At (l : List TK) (a : Nat) (tk : List (Int × BB)) : Prop := ∀ (i : Nat) x, tk[i]? = some x → ∃ t, l[a + i]? = some t ∧ t.k = x.1 ∧ t.s = x.2
theorem At.head {l : List TK} {a : Nat} {x : Int × BB} {r : List (Int × BB)} (h : At l a (x :: r)) : ∃ t, l[a]? = some t ∧ t.k = x.1 ∧ t.s = x.2 := h 0 x rfl
theorem At.tail {l : List TK} {a : Nat} {x : Int × BB} {r : List (Int × BB)} (h : At l a (x :: r)) : At l (a + 1) r := fun i y hy => by
  have := h (i + 1) y (by simpa using hy)
  rwa [show a + 1 + i = a + (i + 1) by omega]
theorem At.left {l : List TK} {a : Nat} {p q : List (Int × BB)} (h : At l a (p ++ q)) : At l a p := fun i y hy =>
  h i y (by rw [List.getElem?_append_left (List.getElem?_eq_some_iff.1 hy).1]; exact hy)
theorem At.right {l : List TK} {a : Nat} {p q : List (Int × BB)} (h : At l a (p ++ q)) : At l (a + p.length) q := fun i y hy => by
  have := h (p.length + i) y (by rw [List.getElem?_append_right (by omega)]; simpa using hy)
  rwa [show a + p.length + i = a + (p.length + i) by omega]
theorem At.isB {l : List TK} {a : Nat} {x : Int × BB} {r : List (Int × BB)} (h : At l a (x :: r)) (s : BB) : isB l a s = (x.2 == s && (x.1 == 0 || x.1 == 3)) := by
  obtain ⟨t, h1, h2, h3⟩ := h.head
  unfold Go.Proofs.YteaaelhndaijoaaDoor.isB
  rw [h1]
  simp only [h2, h3]
def Dl (l : List TK) (a : Nat) : Prop := ∀ s ∈ ([[111, 114], [97, 110, 100], [61, 61], [60], [43], [45], [42], [47], [109, 111, 100]] : List BB), isB l a s = false
section
variable {l : List TK} {e : Int} {nm : BB} {ps ss : Tag × RR} {c c2 a a' a2 : Nat} {us us' us2 : RR} {i i2 : Int}
theorem sum_of (hp : Res l e nm ps ss 97 c a us i a' us') (hd : Dl l a') : Res l e nm ps ss 95 (c + 9 + 9) a us i a' us' :=
  sum_n (product_n hp (hd _ (by simp)) (hd _ (by simp)) (hd _ (by simp))) (hd _ (by simp)) (hd _ (by simp))
theorem no_of (hp : Res l e nm ps ss 97 c a us i a' us') (h0 : isB l a [110, 111, 116] = false) (hd : Dl l a') : Res l e nm ps ss 92 (c + 9 + 9 + 6) a us i a' us' :=
  no_n (sum_of hp hd) h0 (hd _ (by simp)) (hd _ (by simp))
theorem term_of_no (hp : Res l e nm ps ss 92 c a us i a' us') (hd : Dl l a') : Res l e nm ps ss 69 (c + 9 + 9) a us i a' us' :=
  term_n (also_n hp (hd _ (by simp))) (hd _ (by simp))
theorem term_of (hp : Res l e nm ps ss 97 c a us i a' us') (h0 : isB l a [110, 111, 116] = false) (hd : Dl l a') : Res l e nm ps ss 69 (c + 9 + 9 + 6 + 9 + 9) a us i a' us' :=
  term_of_no (no_of hp h0 hd) hd
theorem infix_of {k : Int} (hk : infx k = true) (hp : Res l e nm ps ss 97 c a us i a' us') (h0 : isB l a [110, 111, 116] = false) (hs : ∀ s, isB l a' s = (sgn k == s)) (ha : a' < 9223372036854775807)
    (hp2 : Res l e nm ps ss 97 c2 (a' + 1) us' i2 a2 us2) (h02 : isB l (a' + 1) [110, 111, 116] = false) (hl : us2.length < 100000) (hd : Dl l a2) :
    ∃ c3, Res l e nm ps ss 69 c3 a us (us2.length : Int) a2 (us2 ++ [row k [] 0 [] i i2]) := by
  have hk2 : k = 6 ∨ k = 7 ∨ k = 8 ∨ k = 9 ∨ k = 10 ∨ k = 11 ∨ k = 12 ∨ k = 13 ∨ k = 14 := by
    unfold infx at hk; simp only [Bool.and_eq_true, decide_eq_true_eq] at hk; omega
  have q1 : ∀ {x : Nat} {y : Int} {z : RR} {cc : Nat}, Res l e nm ps ss 92 cc a us y x z → Dl l x → ∃ c3, Res l e nm ps ss 69 c3 a us y x z := fun h d => ⟨_, term_of_no h d⟩
  rcases hk2 with rfl | rfl | rfl | rfl | rfl | rfl | rfl | rfl | rfl
  · exact q1 (no_n (sum_q0 (product_n hp (by rw [hs]; rfl) (by rw [hs]; rfl) (by rw [hs]; rfl)) (by rw [hs]; rfl) ha (product_n hp2 (hd _ (by simp)) (hd _ (by simp)) (hd _ (by simp))) hl (hd _ (by simp)) (hd _ (by simp))) h0 (hd _ (by simp)) (hd _ (by simp))) hd
  · exact q1 (no_n (sum_q1 (product_n hp (by rw [hs]; rfl) (by rw [hs]; rfl) (by rw [hs]; rfl)) (by rw [hs]; rfl) (by rw [hs]; rfl) ha (product_n hp2 (hd _ (by simp)) (hd _ (by simp)) (hd _ (by simp))) hl (hd _ (by simp)) (hd _ (by simp))) h0 (hd _ (by simp)) (hd _ (by simp))) hd
  · exact q1 (no_n (sum_n (product_q0 hp (by rw [hs]; rfl) ha hp2 hl (hd _ (by simp)) (hd _ (by simp)) (hd _ (by simp))) (hd _ (by simp)) (hd _ (by simp))) h0 (hd _ (by simp)) (hd _ (by simp))) hd
  · exact q1 (no_n (sum_n (product_q1 hp (by rw [hs]; rfl) (by rw [hs]; rfl) ha hp2 hl (hd _ (by simp)) (hd _ (by simp)) (hd _ (by simp))) (hd _ (by simp)) (hd _ (by simp))) h0 (hd _ (by simp)) (hd _ (by simp))) hd
  · exact q1 (no_n (sum_n (product_q2 hp (by rw [hs]; rfl) (by rw [hs]; rfl) (by rw [hs]; rfl) ha hp2 hl (hd _ (by simp)) (hd _ (by simp)) (hd _ (by simp))) (hd _ (by simp)) (hd _ (by simp))) h0 (hd _ (by simp)) (hd _ (by simp))) hd
  · exact q1 (no_eq (sum_n (product_n hp (by rw [hs]; rfl) (by rw [hs]; rfl) (by rw [hs]; rfl)) (by rw [hs]; rfl) (by rw [hs]; rfl)) h0 (by rw [hs]; rfl) ha (sum_of hp2 hd) hl) hd
  · exact q1 (no_less (sum_n (product_n hp (by rw [hs]; rfl) (by rw [hs]; rfl) (by rw [hs]; rfl)) (by rw [hs]; rfl) (by rw [hs]; rfl)) h0 (by rw [hs]; rfl) (by rw [hs]; rfl) ha (sum_of hp2 hd) hl) hd
  · have h1 := sum_n (product_n hp (by rw [hs]; rfl) (by rw [hs]; rfl) (by rw [hs]; rfl)) (by rw [hs]; rfl) (by rw [hs]; rfl)
    have h2 := no_n h1 h0 (by rw [hs]; rfl) (by rw [hs]; rfl)
    exact ⟨_, term_n (also_q0 h2 (by rw [hs]; rfl) ha (no_of hp2 h02 hd) hl (hd _ (by simp))) (hd _ (by simp))⟩
  · have h1 := sum_n (product_n hp (by rw [hs]; rfl) (by rw [hs]; rfl) (by rw [hs]; rfl)) (by rw [hs]; rfl) (by rw [hs]; rfl)
    have h2 := also_n (no_n h1 h0 (by rw [hs]; rfl) (by rw [hs]; rfl)) (by rw [hs]; rfl)
    exact ⟨_, term_q0 h2 (by rw [hs]; rfl) ha (also_n (no_of hp2 h02 hd) (hd _ (by simp))) hl (hd _ (by simp))⟩
end
end
section
open Go Go.Abs PT
def lfOk (k : Int) (nm : BB) (n : Int) (tx : BB) : Prop :=
  (k = 0 ∧ mayB nm = true ∧ n = 0 ∧ tx = []) ∨ (k = 1 ∧ nm = [] ∧ tx = [] ∧ -9223372036854775808 ≤ n ∧ n ≤ 9223372036854775807) ∨ (k = 2 ∧ nm = [] ∧ tx = [] ∧ (n = 0 ∨ n = 1)) ∨
    (k = 3 ∧ nm = [] ∧ n = 0 ∧ tx.length ≤ 24) ∨ (k = 4 ∧ nm = [] ∧ n = 0 ∧ tx = []) ∨ (k = 5 ∧ nm = [] ∧ n = 0 ∧ tx = [])
def okT : TT → Prop
  | .lf k nm n tx => lfOk k nm n tx
  | .un k a => (k = 15 ∨ k = 16) ∧ okT a
  | .bi k a b => (infx k = true ∨ k = 17 ∨ k = 18 ∨ k = 19) ∧ okT a ∧ okT b
def valD (acc : Nat) (l : BB) : Nat := l.foldl (fun a c => a * 10 + (c.toNat - 48)) acc
theorem valD_le : ∀ (l : BB) (acc : Nat), acc ≤ valD acc l
  | [], acc => Nat.le_refl _
  | c :: r, acc => by
    have := valD_le r (acc * 10 + (c.toNat - 48))
    show acc ≤ valD (acc * 10 + (c.toNat - 48)) r
    omega
theorem parse_digits : ∀ (l : BB) (acc : Nat), (∀ c ∈ l, isDig c = true) → valD acc l ≤ 9223372036854775808 → Lib.parseUintM 18446744073709551615 acc l = .ok (valD acc l)
  | [], acc, _, _ => rfl
  | c :: r, acc, hd, hv => by
    have h1 := hd c (by simp)
    unfold isDig at h1
    simp only [Bool.and_eq_true, decide_eq_true_eq] at h1
    have h2 : valD acc (c :: r) = valD (acc * 10 + (c.toNat - 48)) r := rfl
    have h3 := valD_le r (acc * 10 + (c.toNat - 48))
    rw [h2] at hv ⊢
    simp only [Lib.parseUintM]
    rw [if_pos h1, if_neg (by omega), if_neg (by omega)]
    exact parse_digits r _ (fun x hx => hd x (by simp [hx])) hv
theorem u8_dig (d : Nat) (h : d < 10) : (UInt8.ofNat (48 + d)).toNat = 48 + d := by
  show (48 + d) % 256 = 48 + d
  omega
theorem isDig_d (d : Nat) (h : d < 10) : isDig (UInt8.ofNat (48 + d)) = true := by
  unfold isDig
  rw [u8_dig d h]
  simp
  omega
theorem digs_ok : ∀ (f u : Nat), u < 10 ^ (f + 1) → (∀ c ∈ digs f u, isDig c = true) ∧ valD 0 (digs f u) = u ∧ digs f u ≠ [] ∧ (digs f u).length ≤ f + 1
  | 0, u, h => by
    have h1 : u < 10 := by simpa using h
    refine ⟨fun c hc => ?_, ?_, by simp [digs], by simp [digs]⟩
    · simp [digs] at hc; subst hc; have := isDig_d u h1; simpa using this
    · show 0 * 10 + ((UInt8.ofNat (48 + u)).toNat - 48) = u
      rw [u8_dig u h1]; omega
  | f + 1, u, h => by
    simp only [digs]
    by_cases h1 : u < 10
    · rw [if_pos h1]
      refine ⟨fun c hc => ?_, ?_, by simp, by simp⟩
      · simp at hc; subst hc; have := isDig_d u h1; simpa using this
      · show 0 * 10 + ((UInt8.ofNat (48 + u)).toNat - 48) = u
        rw [u8_dig u h1]; omega
    · rw [if_neg h1]
      have ih := digs_ok f (u / 10) (by rw [Nat.pow_succ] at h; omega)
      refine ⟨fun c hc => ?_, ?_, by simp, by simp; omega⟩
      · rw [List.mem_append] at hc
        rcases hc with hc | hc
        · exact ih.1 c hc
        · rw [List.mem_singleton] at hc; subst hc; exact isDig_d (u % 10) (by omega)
      · unfold valD at ih ⊢
        rw [List.foldl_append, ih.2.1]
        show u / 10 * 10 + ((UInt8.ofNat (48 + u % 10)).toNat - 48) = u
        rw [u8_dig (u % 10) (by omega)]; omega
theorem digs_nat (f u : Nat) (h : u < 10 ^ (f + 1)) (hu : u ≤ 9223372036854775808) : Lib.parseUintB 64 (digs f u) = .ok u := by
  have h1 := digs_ok f u h
  unfold Lib.parseUintB
  rw [if_neg h1.2.2.1, show (2 : Nat) ^ 64 - 1 = 18446744073709551615 by decide, parse_digits _ _ h1.1 (by rw [h1.2.1]; exact hu), h1.2.1]
theorem parse_itoa {n : Int} (h0 : -9223372036854775808 ≤ n) (h1 : n ≤ 9223372036854775807) : Lib.parseIntB 64 (itoaK n) = .ok n := by
  unfold itoaK
  have e : (2 : Nat) ^ (64 - 1) = 9223372036854775808 := by decide
  have e2 : (10 : Nat) ^ (19 + 1) = 100000000000000000000 := by decide
  by_cases h : n < 0
  · rw [if_pos h, Lib.parseIntB_minus, digs_nat 19 n.natAbs (by rw [e2]; omega) (by omega)]
    simp only [Lib.signedC, e]
    rw [if_neg (by omega)]
    congr 1; omega
  · rw [if_neg h]
    have hd := digs_ok 19 n.toNat (by rw [e2]; omega)
    have hn := digs_nat 19 n.toNat (by rw [e2]; omega) (by omega)
    cases hc : digs 19 n.toNat with
    | nil => exact absurd hc hd.2.2.1
    | cons c r =>
      rw [hc] at hd hn
      have h3 := hd.1 c (by simp)
      unfold isDig at h3
      simp only [Bool.and_eq_true, decide_eq_true_eq] at h3
      rw [Lib.parseIntB_plain 64 c r (by omega) (by omega), hn]
      simp only [Lib.signlessC, e]
      rw [if_neg (by omega)]
      congr 1; omega
theorem itoa_len {n : Int} (h0 : -9223372036854775808 ≤ n) (h1 : n ≤ 9223372036854775807) : (itoaK n).length ≤ 21 := by
  have e2 : (10 : Nat) ^ (19 + 1) = 100000000000000000000 := by decide
  unfold itoaK
  by_cases h : n < 0
  · rw [if_pos h]
    have := (digs_ok 19 n.natAbs (by rw [e2]; omega)).2.2.2
    simp; omega
  · rw [if_neg h]
    have := (digs_ok 19 n.toNat (by rw [e2]; omega)).2.2.2
    omega
def keyW : List BB := [[116, 114, 117, 101], [102, 97, 108, 115, 101], [101, 109, 112, 116, 121], [117, 110, 105, 116], [108, 101, 110], [97, 116], [112, 117, 115, 104], [106, 111, 105, 110], [40], [110, 111, 116]]
theorem keyW_no : ∀ s ∈ keyW, mayB s = false := by
  intro s hs
  simp only [keyW, List.mem_cons, List.not_mem_nil, or_false] at hs
  rcases hs with rfl | rfl | rfl | rfl | rfl | rfl | rfl | rfl | rfl | rfl <;> kernel_rfl
section
variable {l : List TK} {e : Int} {nm : BB} {ps ss : Tag × RR} {c c2 a a' b' : Nat} {us us' vs : RR} {i j : Int} {f : Nat}
theorem Res.eq (h : Res l e nm ps ss f c a us i a' us') (hi : i = j) (ha : a' = b') (hu : us' = vs) : ∃ c, Res l e nm ps ss f c a us j b' vs := by
  subst hi ha hu; exact ⟨c, h⟩
theorem name_no {x : BB} {r : List (Int × BB)} (hA : At l a ((0, x) :: r)) (hm : mayB x = true) : ∀ s ∈ keyW, isB l a s = false := by
  intro s hs
  rw [hA.isB]
  cases h : x == s with
  | false => simp [h]
  | true =>
    have := eq_of_beq h
    subst this
    rw [keyW_no _ hs] at hm
    cases hm
theorem kind_no {k : Int} {x : BB} {r : List (Int × BB)} (hA : At l a ((k, x) :: r)) (h : k = 1 ∨ k = 2) (s : BB) : isB l a s = false := by
  rw [hA.isB]
  rcases h with rfl | rfl
  · simp
  · simp
theorem head_no {t : TT} (h : okT t) (hA : At l a (tkOf t)) : isB l a [110, 111, 116] = false := by
  cases t with
  | lf k nm n tx =>
    simp only [okT, lfOk] at h
    rcases h with ⟨rfl, h, rfl, rfl⟩ | ⟨rfl, rfl, rfl, h, _⟩ | ⟨rfl, rfl, rfl, h⟩ | ⟨rfl, rfl, rfl, h⟩ | ⟨rfl, rfl, rfl, rfl⟩ | ⟨rfl, rfl, rfl, rfl⟩
    · exact name_no hA h _ (by simp [keyW])
    · exact kind_no hA (.inl rfl) _
    · rcases h with rfl | rfl
      · exact (hA.isB (x := (0, [102, 97, 108, 115, 101])) (r := []) _).trans rfl
      · exact (hA.isB (x := (0, [116, 114, 117, 101])) (r := []) _).trans rfl
    · exact kind_no (x := tx) (r := []) (k := 2) hA (.inr rfl) _
    · exact (hA.isB (x := (0, [101, 109, 112, 116, 121])) (r := []) _).trans rfl
    · exact (hA.isB (x := (0, [117, 110, 105, 116])) (r := []) _).trans rfl
  | un k x =>
    rcases h.1 with rfl | rfl
    · exact (At.isB (x := (3, [40])) hA _).trans rfl
    · exact (At.isB (x := (0, [108, 101, 110])) hA _).trans rfl
  | bi k x y =>
    rcases h.1 with h | rfl | rfl | rfl
    · simp only [tkOf, h, if_true] at hA
      exact (At.isB (x := (3, [40])) hA _).trans rfl
    · exact (At.isB (x := (0, [97, 116])) hA _).trans rfl
    · exact (At.isB (x := (0, [112, 117, 115, 104])) hA _).trans rfl
    · exact (At.isB (x := (0, [106, 111, 105, 110])) hA _).trans rfl
theorem Dl_of {x : BB} {r : List (Int × BB)} (hA : At l a ((3, x) :: r)) (hx : x = [41] ∨ x = [44] ∨ x = [59]) : Dl l a := by
  intro s hs
  rw [hA.isB]
  simp only [List.mem_cons, List.not_mem_nil, or_false] at hs
  rcases hx with rfl | rfl | rfl <;> rcases hs with rfl | rfl | rfl | rfl | rfl | rfl | rfl | rfl | rfl <;> rfl
end
section
variable {l : List TK} {e : Int} {nm : BB} {ps ss : Tag × RR}
theorem small_tree : ∀ (t : TT), okT t → ∀ (us : RR) (a : Nat), At l a (tkOf t) → us.length + t.size < 100000 → a + (tkOf t).length < 1000000 →
    ∃ c, Res l e nm ps ss 97 c a us ((us.length + t.size : Nat) - 1) (a + (tkOf t).length) (us ++ t.rows us.length)
  | .lf k nm n tx, h, us, a, hA, hs, ha => by
    simp only [TT.size] at hs
    have hl : us.length < 100000 := by omega
    have hi : (us.length : Int) = ((us.length + 1 : Nat) : Int) - 1 := by omega
    simp only [okT, lfOk] at h
    rcases h with ⟨rfl, h, rfl, rfl⟩ | ⟨rfl, rfl, rfl, h, h'⟩ | ⟨rfl, rfl, rfl, h⟩ | ⟨rfl, rfl, rfl, h⟩ | ⟨rfl, rfl, rfl, rfl⟩ | ⟨rfl, rfl, rfl, rfl⟩
    · obtain ⟨t, h1, h2, h3⟩ := At.head (x := (0, nm)) (r := []) hA
      have hW := name_no (x := nm) (r := []) hA h
      simp only at h2 h3
      subst h3
      exact (small_var h1 (fun s hs => hW s (by revert hs; simp only [keyW, List.mem_cons, List.not_mem_nil, or_false]; intro hs; rcases hs with h | h | h | h | h | h | h | h | h <;> simp [h])) (by simp [tkOf] at ha; omega) hl h2 h).eq hi rfl rfl
    · obtain ⟨t, h1, h2, h3⟩ := At.head (x := (1, itoaK n)) (r := []) hA
      simp only at h2 h3
      have hp := parse_itoa h h'
      have hL := itoa_len h h'
      rw [← h3] at hp hL
      exact (small_num h1 (fun s _ => kind_no (x := itoaK n) (r := []) (k := 1) hA (.inl rfl) s) (by simp [tkOf] at ha; omega) hl h2 (by omega) hp).eq hi rfl rfl
    · rcases h with rfl | rfl
      · have hB := At.isB (x := (0, [102, 97, 108, 115, 101])) (r := []) hA
        exact (small_1 (fun s hs => (hB s).trans (by simp only [List.mem_cons, List.not_mem_nil, or_false] at hs; subst hs; rfl)) ((hB _).trans rfl) (by simp [tkOf] at ha; omega) hl).eq hi rfl rfl
      · have hB := At.isB (x := (0, [116, 114, 117, 101])) (r := []) hA
        exact (small_0 ((hB _).trans rfl) (by simp [tkOf] at ha; omega) hl).eq hi rfl rfl
    · obtain ⟨t, h1, h2, h3⟩ := At.head (x := (2, tx)) (r := []) hA
      simp only at h2 h3
      subst h3
      exact (small_text h1 (fun s _ => kind_no (x := t.s) (r := []) (k := 2) hA (.inr rfl) s) (by simp [tkOf] at ha; omega) hl h2).eq hi rfl rfl
    · have hB := At.isB (x := (0, [101, 109, 112, 116, 121])) (r := []) hA
      exact (small_2 (fun s hs => (hB s).trans (by simp only [List.mem_cons, List.not_mem_nil, or_false] at hs; rcases hs with rfl | rfl <;> rfl)) ((hB _).trans rfl) (by simp [tkOf] at ha; omega) hl).eq hi rfl rfl
    · have hB := At.isB (x := (0, [117, 110, 105, 116])) (r := []) hA
      exact (small_3 (fun s hs => (hB s).trans (by simp only [List.mem_cons, List.not_mem_nil, or_false] at hs; rcases hs with rfl | rfl | rfl <;> rfl)) ((hB _).trans rfl) (by simp [tkOf] at ha; omega) hl).eq hi rfl rfl
  | .un k x, h, us, a, hA, hs, ha => by
    simp only [TT.size] at hs
    rcases h.1 with rfl | rfl
    · have hA : At l a ((3, [40]) :: (0, [110, 111, 116]) :: (tkOf x ++ [(3, [41])])) := hA
      have hL : (tkOf (.un 15 x)).length = (tkOf x).length + 3 := by simp [tkOf]
      rw [hL] at ha ⊢
      have h1 := hA.tail
      have h2 := h1.tail
      have h3 := h2.left
      have h4 := h2.right
      obtain ⟨c, ih⟩ := small_tree x h.2 us (a + 1 + 1) h3 (by omega) (by omega)
      have hd := Dl_of h4 (.inl rfl)
      have hr : (us ++ x.rows us.length).length < 100000 := by simp [TT.rows_length]; omega
      have r1 := no_not ((h1.isB _).trans rfl) (by omega) (no_of ih (head_no h.2 h3) hd) hr
      have hB := hA.isB
      refine (small_8 (fun s hs => (hB s).trans (by simp only [List.mem_cons, List.not_mem_nil, or_false] at hs; rcases hs with rfl | rfl | rfl | rfl | rfl | rfl | rfl | rfl <;> rfl)) ((hB _).trans rfl) (by omega) (term_of_no r1 hd) ((h4.isB _).trans rfl) (by omega)).eq ?_ (by omega) ?_
      · simp [TT.rows_length, TT.size]; omega
      · simp [TT.rows]
    · have hA : At l a ((0, [108, 101, 110]) :: (3, [40]) :: (tkOf x ++ [(3, [41])])) := hA
      have hL : (tkOf (.un 16 x)).length = (tkOf x).length + 3 := by simp [tkOf]
      rw [hL] at ha ⊢
      have h1 := hA.tail
      have h2 := h1.tail
      have h3 := h2.left
      have h4 := h2.right
      obtain ⟨c, ih⟩ := small_tree x h.2 us (a + 1 + 1) h3 (by omega) (by omega)
      have hd := Dl_of h4 (.inl rfl)
      have hr : (us ++ x.rows us.length).length < 100000 := by simp [TT.rows_length]; omega
      have r1 := inner1 ((h1.isB _).trans rfl) (by omega) (term_of ih (head_no h.2 h3) hd) ((h4.isB _).trans rfl) (by omega) hr
      have hB := hA.isB
      refine (small_4 (fun s hs => (hB s).trans (by simp only [List.mem_cons, List.not_mem_nil, or_false] at hs; rcases hs with rfl | rfl | rfl | rfl <;> rfl)) ((hB _).trans rfl) (by omega) r1).eq ?_ (by omega) ?_
      · simp [TT.rows_length, TT.size]; omega
      · simp [TT.rows]
  | .bi k x y, h, us, a, hA, hs, ha => by
    simp only [TT.size] at hs
    by_cases hk : infx k = true
    · have hL : (tkOf (.bi k x y)).length = (tkOf x).length + (tkOf y).length + 3 := by simp [tkOf, hk]; omega
      simp only [tkOf, hk, if_true] at hA
      rw [hL] at ha ⊢
      have h1 := hA.tail
      have h2 := h1.left
      have h3 := h1.right
      have h4 := h3.tail
      have h5 := h4.left
      have h6 := h4.right
      obtain ⟨c, ih⟩ := small_tree x h.2.1 us (a + 1) h2 (by omega) (by omega)
      have hxl : (us ++ x.rows us.length).length = us.length + x.size := by simp [TT.rows_length]
      obtain ⟨c2, ih2⟩ := small_tree y h.2.2 (us ++ x.rows us.length) (a + 1 + (tkOf x).length + 1) h5 (by omega) (by omega)
      rw [hxl] at ih2
      have hd := Dl_of h6 (.inl rfl)
      have hr : (us ++ x.rows us.length ++ y.rows (us.length + x.size)).length < 100000 := by simp [TT.rows_length]; omega
      have hsg : ∀ s, isB l (a + 1 + (tkOf x).length) s = (sgn k == s) := fun s => by
        rw [h3.isB]
        simp only [sk]
        split <;> simp
      obtain ⟨c3, r1⟩ := infix_of hk ih (head_no h.2.1 h2) hsg (by omega) ih2 (head_no h.2.2 h5) hr hd
      have hB := hA.isB
      refine (small_8 (fun s hs => (hB s).trans (by simp only [List.mem_cons, List.not_mem_nil, or_false] at hs; rcases hs with rfl | rfl | rfl | rfl | rfl | rfl | rfl | rfl <;> rfl)) ((hB _).trans rfl) (by omega) r1 ((h6.isB _).trans rfl) (by omega)).eq ?_ (by omega) ?_
      · simp [TT.rows_length, TT.size]; omega
      · simp [TT.rows]
    · have hk' : k = 17 ∨ k = 18 ∨ k = 19 := by rcases h.1 with h | h; exact absurd h hk; exact h
      have hL : (tkOf (.bi k x y)).length = (tkOf x).length + (tkOf y).length + 4 := by simp [tkOf, hk]; omega
      simp only [tkOf, hk, if_false] at hA
      rw [hL] at ha ⊢
      have h0 := hA.tail
      have h1 := h0.tail
      have h2 := h1.left
      have h3 := h1.right
      have h4 := h3.tail
      have h5 := h4.left
      have h6 := h4.right
      obtain ⟨c, ih⟩ := small_tree x h.2.1 us (a + 1 + 1) h2 (by omega) (by omega)
      have hxl : (us ++ x.rows us.length).length = us.length + x.size := by simp [TT.rows_length]
      obtain ⟨c2, ih2⟩ := small_tree y h.2.2 (us ++ x.rows us.length) (a + 1 + 1 + (tkOf x).length + 1) h5 (by omega) (by omega)
      rw [hxl] at ih2
      have hd := Dl_of h6 (.inl rfl)
      have hd1 := Dl_of h3 (.inr (.inl rfl))
      have hr : (us ++ x.rows us.length ++ y.rows (us.length + x.size)).length < 100000 := by simp [TT.rows_length]; omega
      have r1 := inner2 (k := k) (by omega) ((h0.isB _).trans rfl) (by omega) (term_of ih (head_no h.2.1 h2) hd1) ((h3.isB _).trans rfl) (by omega) (term_of ih2 (head_no h.2.2 h5) hd) ((h6.isB _).trans rfl) (by omega) hr
      have hB := hA.isB
      rcases hk' with rfl | rfl | rfl
      · refine (small_5 (fun s hs => (hB s).trans (by simp only [List.mem_cons, List.not_mem_nil, or_false] at hs; rcases hs with rfl | rfl | rfl | rfl | rfl <;> rfl)) ((hB _).trans rfl) (by omega) r1).eq ?_ (by omega) ?_
        · simp [TT.rows_length, TT.size]; omega
        · simp [TT.rows]
      · refine (small_6 (fun s hs => (hB s).trans (by simp only [List.mem_cons, List.not_mem_nil, or_false] at hs; rcases hs with rfl | rfl | rfl | rfl | rfl | rfl <;> rfl)) ((hB _).trans rfl) (by omega) r1).eq ?_ (by omega) ?_
        · simp [TT.rows_length, TT.size]; omega
        · simp [TT.rows]
      · refine (small_7 (fun s hs => (hB s).trans (by simp only [List.mem_cons, List.not_mem_nil, or_false] at hs; rcases hs with rfl | rfl | rfl | rfl | rfl | rfl | rfl <;> rfl)) ((hB _).trans rfl) (by omega) r1).eq ?_ (by omega) ?_
        · simp [TT.rows_length, TT.size]; omega
        · simp [TT.rows]
end
end
section
open Go Go.Abs PT
def hexL : BB := [48, 49, 50, 51, 52, 53, 54, 55, 56, 57, 97, 98, 99, 100, 101, 102]
def hexd (v : Nat) : UInt8 := hexL.getD v 0
def qc (c : UInt8) : BB := if c.toNat = 34 ∨ c.toNat = 92 then [92, c] else if c.toNat = 10 then [92, 110] else if c.toNat < 32 ∨ 126 < c.toNat then [92, 120, hexd (c.toNat / 16), hexd (c.toNat % 16)] else [c]
def quotedB (s : BB) : BB := 34 :: (s.flatMap qc ++ [34])
def txtOf : TT → BB
  | .lf k nm n tx => if k = 0 then nm else if k = 1 then itoaK n else if k = 2 then (if n = 1 then [116, 114, 117, 101] else [102, 97, 108, 115, 101])
      else if k = 3 then quotedB tx else if k = 4 then [101, 109, 112, 116, 121] else [117, 110, 105, 116]
  | .un k a => if k = 15 then [40, 110, 111, 116, 32] ++ txtOf a ++ [41] else (cll k ++ [40]) ++ txtOf a ++ [41]
  | .bi k a b => if infx k = true then [40] ++ txtOf a ++ ([32] ++ sgn k ++ [32]) ++ txtOf b ++ [41] else (cll k ++ [40]) ++ txtOf a ++ [44, 32] ++ txtOf b ++ [41]
theorem all_lt {p : Nat → Bool} {N : Nat} (h : (List.range N).all p = true) (n : Nat) (hn : n < N) : p n = true := List.all_eq_true.1 h n (List.mem_range.2 hn)
def hexC (n : Nat) : Bool := decide (asI ((natI n).fdiv ((2 : Int) ^ min (Int.toNat (4 : Int)) IntKind.u8.bits)) = some (n / 16)) && decide (hexL[n / 16]? = some (hexd (n / 16))) &&
  decide (hexL[(w8 (natI (BitVec.ofInt IntKind.u8.bits (natI n) &&& BitVec.ofInt IntKind.u8.bits (15 : Int)).toNat)).toNat]? = some (hexd (n % 16)))
theorem hexC_all : (List.range 256).all hexC = true := by kernel_rfl
theorem hex_ok (c : UInt8) : asI ((natI c.toNat).fdiv ((2 : Int) ^ min (Int.toNat (4 : Int)) IntKind.u8.bits)) = some (c.toNat / 16) ∧ hexL[c.toNat / 16]? = some (hexd (c.toNat / 16)) ∧
    hexL[(w8 (natI (BitVec.ofInt IntKind.u8.bits (natI c.toNat) &&& BitVec.ofInt IntKind.u8.bits (15 : Int)).toNat)).toNat]? = some (hexd (c.toNat % 16)) := by
  have h := all_lt hexC_all c.toNat c.toNat_lt
  unfold hexC at h
  simp only [Bool.and_eq_true, decide_eq_true_eq] at h
  exact ⟨h.1.1, h.1.2, h.2⟩
theorem strB_app (a b : BB) : D.strB (a ++ b) = D.strB a ++ D.strB b := by unfold D.strB; exact List.map_append
theorem strB_len (a : BB) : (D.strB a).length = a.length := by unfold D.strB; exact List.length_map _
theorem strB_emp {a : BB} (h : a ≠ []) : (D.strB a).isEmpty = false := by cases a with | nil => exact absurd rfl h | cons => rfl
theorem toBytes_strB : ∀ b : BB, toBytes (D.strB b) = some b
  | [] => rfl
  | c :: r => by
    show (toBytes (D.strB r)).map (UInt8.ofNat ((c.toNat : Int).toNat) :: ·) = some (c :: r)
    rw [toBytes_strB r]
    show some (UInt8.ofNat c.toNat :: r) = some (c :: r)
    rw [UInt8.ofNat_toNat]
theorem qgd (src : RR) (b : BB) (k : Nat) (hb : b ≠ []) (hl : b.length + k ≤ 1000000) :
    (u8ok 1 src (D.strB b).isEmpty && true && true && (D.strB b).length == (D.strB b).length && true && decide (((D.strB b).length + k) * 1 ≤ 140737488355328)) = true := by
  rw [strB_emp hb, strB_len, beq_self_eq_true, decide_eq_true (by omega)]
  simp [u8ok]
theorem wgd (s b : BB) (hb : b ≠ []) (hl : b.length + s.length ≤ 1000000) :
    (u8ok 1 (D.strB s) (D.strB b).isEmpty && true && true && (D.strB b).length == (D.strB b).length && true && decide (((D.strB b).length + (D.strB s).length) * 1 ≤ 140737488355328)) = true := by
  rw [strB_len s]
  exact qgd (D.strB s) b s.length hb hl
theorem natI_beq (c : UInt8) (n : Nat) : (natI c.toNat == (n : Int)) = decide (c.toNat = n) := by
  rw [natI_eq]
  by_cases h : c.toNat = n
  · rw [h]; simp
  · rw [decide_eq_false h]; simp; omega
theorem quoted_loop (n q : Nat) (s : BB) (hs : s.length < 100000) : ∀ (k i : Nat) (b : BB), s.length - i < k → b ≠ [] → b.length + 4 * (s.length - i) + 1 ≤ 1000000 →
    lq6__0 (T n) (q + 1) k (.s0 s (D.strB b) (i : Int)) = some (.one (sC (b ++ (s.drop i).flatMap qc ++ [34])), [])
  | 0, i, b, hk, _, _ => by omega
  | k + 1, i, b, hk, hb, hl => by
    rw [lq6__0_e0]
    unfold wq6__0_0
    by_cases h : i < s.length
    · have hc : s[i]? = some s[i] := List.getElem?_eq_getElem h
      have hd : s.drop i = s[i] :: s.drop (i + 1) := List.drop_eq_getElem_cons h
      have ih := fun (x : BB) (hx : x.length ≤ 4) => quoted_loop n q s hs k (i + 1) (b ++ x) (by omega) (by simp [hb]) (by simp; omega)
      rw [hd, List.flatMap_cons]
      generalize s[i] = c at hc hd
      have fin : ∀ (x : BB), x.length ≤ 4 → x = qc c → lq6__1 (T n) (q + 1) (lq6__0 (T n) (q + 1) k) (q + 1) (.s0 s (D.strB b ++ D.strB x) (i : Int)) =
          some (.one (sC (b ++ (qc c ++ (s.drop (i + 1)).flatMap qc) ++ [34])), []) := by
        intro x hx he
        rw [lq6__1_e0]
        unfold wq6__1_0
        rw [w64_succ i (by omega), ← strB_app, ih x hx, he]
        simp
      rw [bif_t (by simp [natI_eq]; omega), qO_asI _ rfl, qO _ hc]
      rw [show (natI c.toNat == (34 : Int)) = decide (c.toNat = 34) from natI_beq c 34, show (natI c.toNat == (92 : Int)) = decide (c.toNat = 92) from natI_beq c 92, show (natI c.toNat == (10 : Int)) = decide (c.toNat = 10) from natI_beq c 10]
      by_cases h1 : c.toNat = 34
      · rw [bif_t (decide_eq_true h1)]
        refine (gd_t (qgd _ b 2 hb (by omega))).trans ?_
        exact fin [92, c] (by simp) (by unfold qc; rw [if_pos (.inl h1)])
      · rw [bif_f (decide_eq_false h1)]
        by_cases h2 : c.toNat = 92
        · rw [bif_t (decide_eq_true h2)]
          refine (gd_t (qgd _ b 2 hb (by omega))).trans ?_
          exact fin [92, c] (by simp) (by unfold qc; rw [if_pos (.inr h2)])
        · rw [bif_f (decide_eq_false h2)]
          by_cases h3 : c.toNat = 10
          · rw [bif_t (decide_eq_true h3)]
            refine (gd_t (qgd _ b 2 hb (by omega))).trans ?_
            exact fin [92, 110] (by simp) (by unfold qc; rw [if_neg (by omega), if_pos h3])
          · rw [bif_f (decide_eq_false h3)]
            obtain ⟨x1, x2, x3⟩ := hex_ok c
            by_cases h4 : c.toNat < 32
            · rw [bif_t (decide_eq_true (show natI c.toNat < (32 : Int) by rw [natI_eq]; omega)), qO _ x1]
              refine (qO _ x2).trans ?_
              refine (qO _ x3).trans ?_
              refine (gd_t (qgd _ b 4 hb (by omega))).trans ?_
              exact fin [92, 120, hexd (c.toNat / 16), hexd (c.toNat % 16)] (by simp) (by unfold qc; rw [if_neg (by omega), if_neg h3, if_pos (.inl h4)])
            · rw [bif_f (decide_eq_false (show ¬ natI c.toNat < (32 : Int) by rw [natI_eq]; omega))]
              by_cases h5 : 126 < c.toNat
              · rw [bif_t (decide_eq_true (show natI c.toNat > (126 : Int) by rw [natI_eq]; omega)), qO _ x1]
                refine (qO _ x2).trans ?_
                refine (qO _ x3).trans ?_
                refine (gd_t (qgd _ b 4 hb (by omega))).trans ?_
                exact fin [92, 120, hexd (c.toNat / 16), hexd (c.toNat % 16)] (by simp) (by unfold qc; rw [if_neg (by omega), if_neg h3, if_pos (.inr h5)])
              · rw [bif_f (decide_eq_false (show ¬ natI c.toNat > (126 : Int) by rw [natI_eq]; omega))]
                refine (gd_t (qgd _ b 1 hb (by omega))).trans ?_
                exact fin [c] (by simp) (by unfold qc; rw [if_neg (by omega), if_neg h3, if_neg (by omega)])
    · rw [bif_f (by simp [natI_eq]; omega), List.drop_eq_nil_of_le (by omega)]
      refine (gd_t (qgd _ b 1 hb (by omega))).trans ?_
      refine (qO (b := b ++ [34]) _ ?_).trans ?_
      · exact (congrArg toBytes (strB_app b [34]).symm).trans (toBytes_strB _)
      · simp
theorem quoted_ok (n : Nat) (hn : 2 ≤ n) (s : BB) (hs : s.length + 1 < n) (h2 : s.length < 10000) : T n 55 [.one (sC s)] [] = some (.one (sC (quotedB s)), []) := by
  obtain ⟨m, rfl⟩ : ∃ m, n = m + 2 := ⟨n - 2, by omega⟩
  rw [eq6_]
  unfold tq6_ ttq6_
  have := quoted_loop (m + 1) m s (by omega) (m + 1) 0 [34] (by omega) (by simp) (by simp; omega)
  exact (show lq6__0 (T (m + 1)) (m + 1) (m + 1) (.s0 s [[D.int .u8 34]] 0) = _ from this).trans (by simp [quotedB])
def tgB (b : BB) : Tag × RR := match b with | [] => (.im true, []) | _ => (.own, D.strB b)
abbrev bB (b : BB) : RowT sh5 := ((), tgB b, ())
theorem res_bld (z : Int) (p : RowT sh5) {R : Type} (K : (Int × Bool × Unit) × RowT sh5 × Unit → Option R) : tRes rs13 (some (.tup [.one (iC z), .one .nili], [bx sh5 p])) K = K ((z, true, ()), p, ()) := by
  obtain ⟨u, ⟨t, r⟩, u2⟩ := p
  cases u; cases u2
  rfl
theorem res_bup (p : RowT sh5) {R : Type} (K : Unit × RowT sh5 × Unit → Option R) : tRes rs4 (some (.tup [], [bx sh5 p])) K = K ((), p, ()) := by
  obtain ⟨u, ⟨t, r⟩, u2⟩ := p
  cases u; cases u2
  rfl
theorem cc' (n : Nat) (hn : 1 ≤ n) (p : RowT sh5) : T n 52 [pE] [bx sh5 p] = some (.tup [], [bx sh5 p]) := by
  obtain ⟨m, rfl⟩ := Nat.exists_eq_add_of_le' hn
  rw [T_succ]
  obtain ⟨u, ⟨t, r⟩, u2⟩ := p
  cases u; cases u2
  rfl
theorem write' (n : Nat) (hn : 2 ≤ n) (s b : BB) (hl : b.length + s.length ≤ 1000000) : T n 38 [pE, .one (sC s)] [bx sh5 (bB b)] = some (.tup [.one (iC (s.length : Int)), .one .nili], [bx sh5 (bB (b ++ s))]) := by
  obtain ⟨m, rfl⟩ := Nat.exists_eq_add_of_le' hn
  rw [eq13_]
  unfold tq13_
  rw [cc' (m + 1) (by omega), res_bup]
  cases b with
  | nil =>
    dsimp only [tgB, tagI]
    refine (gd_t ?_).trans ?_
    · rw [strB_len, decide_eq_true (by simp at hl; omega)]
      simp [u8ok]
    · cases s with
      | nil => rfl
      | cons c r => rfl
  | cons c r =>
    dsimp only [tgB, tagI]
    refine (gd_t ?_).trans ?_
    · exact wgd s (c :: r) (by simp) hl
    · rw [← strB_app]
      rfl
theorem itoa' (n : Nat) (hn : 1 ≤ n) {z : Int} (h0 : -9223372036854775808 ≤ z) (h1 : z ≤ 9223372036854775807) : T n 53 [.one (iC z), .one (iC 10)] [] = some (.one (sC (itoaK z)), []) := by
  obtain ⟨m, rfl⟩ := Nat.exists_eq_add_of_le' hn
  rw [T_succ]
  show (if (10 : Int) = 10 ∧ -9223372036854775808 ≤ z ∧ z ≤ 9223372036854775807 then some (V.one (.d (.str (itoaK z))), ([] : List (List C))) else none) = _
  rw [if_pos ⟨rfl, h0, h1⟩]
theorem bool' (n : Nat) (hn : 2 ≤ n) (b : Bool) : T n 54 [.one (bC b)] [] = some (V.one (sC (if b then [116, 114, 117, 101] else [102, 97, 108, 115, 101])), []) := by
  obtain ⟨m, rfl⟩ := Nat.exists_eq_add_of_le' hn
  rw [eq1b_]
  unfold tq1b_
  rw [eq1h_]
  cases b <;> rfl
theorem bif_beq_f {k c : Int} {R : Type} {x y : R} (h : k ≠ c) : (bif k == c then x else y) = y := by rw [bif_f (by simpa using h)]
theorem leafT (n : Nat) (hn : 40 ≤ n) {k : Int} {nm : BB} {z : Int} {tx : BB} (h : lfOk k nm z tx) (x y : Int) : T n 39 [.agg [iC k, sC nm, iC z, sC tx, iC x, iC y]] [] = some (.one (sC (txtOf (.lf k nm z tx))), []) := by
  obtain ⟨m, rfl⟩ : ∃ m, n = m + 40 := ⟨n - 40, by omega⟩
  rw [eq12_]
  unfold tq12_
  rcases h with ⟨rfl, h, rfl, rfl⟩ | ⟨rfl, rfl, rfl, h, h'⟩ | ⟨rfl, rfl, rfl, h⟩ | ⟨rfl, rfl, rfl, h⟩ | ⟨rfl, rfl, rfl, rfl⟩ | ⟨rfl, rfl, rfl, rfl⟩
  · rfl
  · rw [bif_f (by decide), bif_t (by decide), itoa' (m + 39) (by omega) h h', res_s]; rfl
  · rw [bif_f (by decide), bif_f (by decide), bif_t (by decide), bool' (m + 39) (by omega), res_s]
    rcases h with rfl | rfl <;> rfl
  · rw [bif_f (by decide), bif_f (by decide), bif_f (by decide), bif_t (by decide), quoted_ok (m + 39) (by omega) tx (by omega) (by omega), res_s]; rfl
  · rfl
  · rfl
theorem psign' (n : Nat) (hn : 1 ≤ n) (k : Int) : T n 40 [.one (iC k)] [] = some (.one (sC (sgn k)), []) := by
  obtain ⟨m, rfl⟩ := Nat.exists_eq_add_of_le' hn
  rw [eq14_]
  unfold tq14_ sgn
  repeat' split
  all_goals (try subst_vars)
  all_goals (first | rfl | (simp only [bif_beq_f, *, ne_eq, not_false_eq_true, not_true_eq_false]; done) | skip)
  all_goals (repeat (first | rw [bif_beq_f (by assumption)] | rfl))
theorem pcall' (n : Nat) (hn : 1 ≤ n) (k : Int) : T n 41 [.one (iC k)] [] = some (.one (sC (cll k)), []) := by
  obtain ⟨m, rfl⟩ := Nat.exists_eq_add_of_le' hn
  rw [eq15_]
  unfold tq15_ cll
  repeat' split
  all_goals (try subst_vars)
  all_goals (first | rfl | skip)
  all_goals (repeat (first | rw [bif_beq_f (by assumption)] | rfl))
end
end Go.Proofs.YteaaelhndaijoaaDoor
