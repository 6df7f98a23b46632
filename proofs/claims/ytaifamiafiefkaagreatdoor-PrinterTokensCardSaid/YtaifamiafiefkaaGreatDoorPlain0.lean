/- What the functions that the law reaches answer, in plain data. -/
import Derived.Test.YtaifamiafiefkaaGreatDoorAbs10
import Derived.Test.YtaifamiafiefkaaGreatDoorTree0
import Derived.KernelRfl
import Derived.Test.YtaifamiafiefkaaGreatDoorPrim
set_option linter.unusedVariables false
set_option maxRecDepth 100000
set_option linter.unusedSimpArgs false
set_option maxHeartbeats 1000000
namespace Go.Proofs.YtaifamiafiefkaaGreatDoor.PT
section
open Go Go.Abs
abbrev BB := List UInt8
abbrev RR := List (List D)
inductive TT where
  | lf (k : Int) (nm : BB) (n : Int) (tx : BB)
  | un (k : Int) (a : TT)
  | bi (k : Int) (a b : TT)
def row (k : Int) (nm : BB) (n : Int) (tx : BB) (x y : Int) : List D := [.int .i64 k, .str nm, .int .i64 n, .str tx, .int .i64 x, .int .i64 y]
def TT.size : TT → Nat
  | .lf .. => 1
  | .un _ a => a.size + 1
  | .bi _ a b => a.size + b.size + 1
def TT.deep : TT → Nat
  | .lf .. => 1
  | .un _ a => a.deep + 1
  | .bi _ a b => max a.deep b.deep + 1
def TT.rows : TT → Nat → RR
  | .lf k nm n tx, _ => [row k nm n tx (-1) (-1)]
  | .un k a, b => a.rows b ++ [row k [] 0 [] ((b + a.size : Nat) - 1) (-1)]
  | .bi k a c, b => a.rows b ++ c.rows (b + a.size) ++ [row k [] 0 [] ((b + a.size : Nat) - 1) ((b + a.size + c.size : Nat) - 1)]
theorem TT.size_pos : ∀ t : TT, 0 < t.size
  | .lf .. => by simp [TT.size]
  | .un .. => by simp [TT.size]
  | .bi .. => by simp [TT.size]
def TT.at_ (l : RR) : TT → Int → Prop
  | .lf k nm n tx, i => ∃ j : Nat, i = j ∧ l[j]? = some (row k nm n tx (-1) (-1))
  | .un k a, i => ∃ (j : Nat) (x : Int), i = j ∧ l[j]? = some (row k [] 0 [] x (-1)) ∧ a.at_ l x
  | .bi k a c, i => ∃ (j : Nat) (x y : Int), i = j ∧ l[j]? = some (row k [] 0 [] x y) ∧ a.at_ l x ∧ c.at_ l y
def sgn (k : Int) : BB :=
  if k = 6 then [43] else if k = 7 then [45] else if k = 8 then [42] else if k = 9 then [47] else if k = 10 then [109, 111, 100] else if k = 11 then [61, 61] else if k = 12 then [60]
  else if k = 13 then [97, 110, 100] else if k = 14 then [111, 114] else []
def cll (k : Int) : BB := if k = 16 then [108, 101, 110] else if k = 17 then [97, 116] else if k = 18 then [112, 117, 115, 104] else [106, 111, 105, 110]
def infx (k : Int) : Bool := decide (6 ≤ k) && decide (k ≤ 14)
end
end Go.Proofs.YtaifamiafiefkaaGreatDoor.PT
namespace Go.Proofs.YtaifamiafiefkaaGreatDoor
section
open Go Go.Abs
section
variable {R : Type}
theorem decBs1 (ds : List DS) (p : RowT ds) : decBs [ds] [bx ds p] = some (p, ()) := by
  have h := unbx_bx ds p
  unfold unbx at h
  simp only [decBs, h]
theorem tr_v0 {vs : VS} {o : OR} {x : V} {v : vs.T} {K : (RS.val vs []).T → Option R} {z : Option R} (h : o = some (x, [])) (hd : decV vs x = some v) (h2 : K (v, ()) = z) : tRes (.val vs []) o K = z := by
  subst h
  simp only [tRes, decR, hd, decBs]
  exact h2
theorem tr_t {vs : List VS} {ds : List DS} {o : OR} {x : List V} {v : VSsT vs} {p : RowT ds} {K : (RS.tup vs [ds]).T → Option R} {z : Option R} (h : o = some (.tup x, [bx ds p])) (hd : decVs vs x = some v) (h2 : K (v, p, ()) = z) : tRes (.tup vs [ds]) o K = z := by
  subst h
  simp only [tRes, decR, hd, decBs1]
  exact h2
theorem tr_t0 {vs : List VS} {o : OR} {x : List V} {v : VSsT vs} {K : (RS.tup vs []).T → Option R} {z : Option R} (h : o = some (.tup x, [])) (hd : decVs vs x = some v) (h2 : K (v, ()) = z) : tRes (.tup vs []) o K = z := by
  subst h
  simp only [tRes, decR, hd, decBs]
  exact h2
theorem tr_b {o : OR} {b : Bool} {K : (RS.val (.one .bool) []).T → Option R} {z : Option R} (h : o = some (.one (bC b), [])) (h2 : K (b, ()) = z) : tRes (.val (.one .bool) []) o K = z := tr_v0 h rfl h2
theorem tr_i {o : OR} {b : Int} {K : (RS.val (.one (.int .i64)) []).T → Option R} {z : Option R} (h : o = some (.one (iC b), [])) (h2 : K (b, ()) = z) : tRes (.val (.one (.int .i64)) []) o K = z := tr_v0 h rfl h2
theorem tr_s {o : OR} {b : BB} {K : (RS.val (.one .str) []).T → Option R} {z : Option R} (h : o = some (.one (sC b), [])) (h2 : K (b, ()) = z) : tRes (.val (.one .str) []) o K = z := tr_v0 h rfl h2
theorem tr_up {ds : List DS} {o : OR} {p : RowT ds} {K : (RS.tup [] [ds]).T → Option R} {z : Option R} (h : o = some (.tup [], [bx ds p])) (h2 : K ((), p, ()) = z) : tRes (.tup [] [ds]) o K = z := tr_t h rfl h2
theorem gd_th {b : Bool} {x z : Option R} (h : b = true) (h2 : x = z) : gd b x = z := by subst h; exact h2
theorem bif_th {b : Bool} {x y z : R} (h : b = true) (h2 : x = z) : (bif b then x else y) = z := by subst h; exact h2
theorem bif_fh {b : Bool} {x y z : R} (h : b = false) (h2 : y = z) : (bif b then x else y) = z := by subst h; exact h2
theorem qo {β : Type} {o : Option β} {b : β} {K : β → Option R} {z : Option R} (h : o = some b) (h2 : K b = z) : qOpt o K = z := by subst h; exact h2
theorem asI_n (n : Nat) : asI (n : Int) = some n := by unfold asI; simp
theorem asI_of {z : Int} {n : Nat} (h : z = (n : Int)) : asI z = some n := by subst h; exact asI_n n
theorem tg_im {b : Bool} {f : Bool → Option R} {g z : Option R} (h : f b = z) : tagI (.im b) f g = z := h
theorem tg_own {f : Bool → Option R} {g z : Option R} (h : g = z) : tagI .own f g = z := h
theorem g63_th {n : Nat} {x z : Option R} (h : n ≤ 1000000) (h2 : x = z) : g63 n x = z := by
  unfold g63; rw [show decide (n ≤ 9223372036854775807) = true from decide_eq_true (by omega)]; exact h2
end
theorem rA_of {ds : List DS} {c n : Nat} {L : RR} {i : Nat} {r : List D} {v : RowT ds} {K : RowT ds → OR} {z : OR} (h : L[i]? = some r) (hl : c + n ≤ r.length) (hd : decRow ds (List.take n (List.drop c r)) = some v) (h2 : K v = z) : rA ds c n L i K = z := by
  unfold rA
  refine qo h ?_
  rw [show decide (n ≤ (List.drop c r).length) = true from decide_eq_true (by simp; omega)]
  simp only [cond_true, tRow, hd]
  exact h2
theorem iR_of {ds : List DS} {c n : Nat} {L : RR} {x : Int} {i : Nat} {r : List D} {v : RowT ds} {K : RowT ds → OR} {z : OR} (hx : x = (i : Int)) (h : L[i]? = some r) (hl : c + n ≤ r.length) (hd : decRow ds (List.take n (List.drop c r)) = some v) (h2 : K v = z) : iR ds c n L x K = z := by
  unfold iR
  exact qo (asI_of hx) (rA_of h hl hd h2)
theorem iV_of {ds : List DS} {c n : Nat} {L : RR} {x : Int} {i : Nat} {r : List D} {v : RowT ds} {K : RowT ds → OR} {z : OR} (hx : x = (i : Int)) (h : L[i]? = some r) (hl : c + n ≤ r.length) (hd : decRow ds (List.take n (List.drop c r)) = some v) (h2 : K v = z) : iV ds c n L x K = z := by
  unfold iV
  refine qo (asI_of hx) (gd_th (decide_eq_true (List.getElem?_eq_some_iff.1 h).1) (qo (b := r) (by rw [Nat.zero_add]; exact h) (gd_th (decide_eq_true hl) ?_)))
  simp only [tRow, hd]
  exact h2
section
variable {R : Type}
theorem res_b (b : Bool) (K : Bool × Unit → Option R) : tRes (.val (.one .bool) []) (some (.one (bC b), [])) K = K (b, ()) := rfl
theorem res_i (b : Int) (K : Int × Unit → Option R) : tRes (.val (.one (.int .i64)) []) (some (.one (iC b), [])) K = K (b, ()) := rfl
theorem res_s (b : BB) (K : BB × Unit → Option R) : tRes (.val (.one .str) []) (some (.one (sC b), [])) K = K (b, ()) := rfl
theorem gd_t {b : Bool} {x : Option R} (h : b = true) : gd b x = x := by subst h; rfl
theorem bif_t {b : Bool} {x y : R} (h : b = true) : (bif b then x else y) = x := by subst h; rfl
theorem bif_f {b : Bool} {x y : R} (h : b = false) : (bif b then x else y) = y := by subst h; rfl
theorem qO_asI {z : Int} {n : Nat} (K : Nat → Option R) (h : z = (n : Int)) : qOpt (asI z) K = K n := by subst h; rw [asI_nat]; rfl
theorem qO {β : Type} {o : Option β} {b : β} (K : β → Option R) (h : o = some b) : qOpt o K = K b := by subst h; rfl
end
structure TK where
  k : Int
  s : BB
  a : Int
def cT (t : TK) : List D := [.int .i64 t.k, .str t.s, .int .i64 t.a]
end
section
open Go Go.Abs PT
def kwB (s : BB) : Bool := (s == [97, 110, 100]) || ((s == [97, 115]) || ((s == [97, 116]) || ((s == [98, 111, 111, 108]) || ((s == [99, 97, 108, 108]) || ((s == [99, 104, 97, 110]) || ((s == [100, 114, 111, 112]) || ((s == [101, 108, 115, 101]) || ((s == [101, 109, 112, 116, 121]) || ((s == [101, 110, 100]) || ((s == [102, 97, 105, 108]) || ((s == [102, 97, 108, 115, 101]) || ((s == [102, 114, 111, 109]) || ((s == [104, 101, 97, 114]) || ((s == [105, 102]) || ((s == [105, 110, 116]) || ((s == [106, 111, 105, 110]) || ((s == [108, 101, 110]) || ((s == [108, 101, 116]) || ((s == [108, 105, 115, 116]) || ((s == [108, 111, 99, 97, 108]) || ((s == [108, 111, 115, 116]) || ((s == [109, 111, 100]) || ((s == [110, 111, 116]) || ((s == [111, 112, 101, 110]) || ((s == [111, 114]) || ((s == [112, 114, 105, 110, 116]) || ((s == [112, 114, 111, 99]) || ((s == [112, 114, 111, 116, 111, 99, 111, 108]) || ((s == [112, 117, 115, 104]) || ((s == [114, 111, 108, 101, 115]) || ((s == [115, 97, 121]) || ((s == [115, 112, 97, 119, 110]) || ((s == [115, 116, 111, 112]) || ((s == [116, 101, 120, 116]) || ((s == [116, 111]) || ((s == [116, 114, 117, 101]) || ((s == [117, 110, 105, 116]) || ((s == [119, 105, 116, 104]) || false))))))))))))))))))))))))))))))))))))))
theorem bif_or (b c : Bool) : (bif b then rT else some (.one (.d (.bool c)), [])) = (some (.one (.d (.bool (b || c))), []) : OR) := by cases b <;> rfl
theorem keyword_ok (n : Nat) (hn : 2 ≤ n) (s : BB) : T n 31 [.one (sC s)] [] = some (.one (bC (kwB s)), []) := by
  obtain ⟨m, rfl⟩ := Nat.exists_eq_add_of_le' hn
  refine eqf_ ?_
  rw [lqf__0_0e]
  rw [show rF = (some (.one (.d (.bool false)), []) : OR) from rfl]
  simp only [bif_or]
  rfl
def isLet (c : UInt8) : Bool := decide (97 ≤ c.toNat) && decide (c.toNat ≤ 122)
def isDig (c : UInt8) : Bool := decide (48 ≤ c.toNat) && decide (c.toNat ≤ 57)
theorem rng_ok (x : Nat) (lo hi : Int) : (bif decide (natI x ≥ lo) then (some (.one (bC (decide (natI x ≤ hi))), []) : OR) else rF) = some (.one (bC (decide (lo ≤ natI x) && decide (natI x ≤ hi))), []) := by
  by_cases h : lo ≤ natI x
  · rw [bif_t (by simpa using h), decide_eq_true h]; rfl
  · rw [bif_f (by simpa using h), decide_eq_false h]; rfl
theorem let_eq (c : UInt8) : (decide ((97 : Int) ≤ natI c.toNat) && decide (natI c.toNat ≤ (122 : Int))) = isLet c := by
  unfold isLet; rw [natI_eq]; congr 1 <;> exact decide_eq_decide.2 (by omega)
theorem dig_eq (c : UInt8) : (decide ((48 : Int) ≤ natI c.toNat) && decide (natI c.toNat ≤ (57 : Int))) = isDig c := by
  unfold isDig; rw [natI_eq]; congr 1 <;> exact decide_eq_decide.2 (by omega)
theorem nletter_ok (n : Nat) (hn : 1 ≤ n) (c : UInt8) : T n 57 [.one (.d (.int .u8 (natI c.toNat)))] [] = some (.one (bC (isLet c)), []) := by
  obtain ⟨m, rfl⟩ := Nat.exists_eq_add_of_le' hn
  refine eqx_ ?_
  rw [← let_eq]; exact rng_ok _ _ _
theorem ndigit_ok (n : Nat) (hn : 1 ≤ n) (c : UInt8) : T n 58 [.one (.d (.int .u8 (natI c.toNat)))] [] = some (.one (bC (isDig c)), []) := by
  obtain ⟨m, rfl⟩ := Nat.exists_eq_add_of_le' hn
  refine eqy_ ?_
  rw [← dig_eq]; exact rng_ok _ _ _
theorem lletter_ok (n : Nat) (hn : 1 ≤ n) (c : UInt8) : T n 17 [.one (.d (.int .u8 (natI c.toNat)))] [] = some (.one (bC (isLet c)), []) := by
  obtain ⟨m, rfl⟩ := Nat.exists_eq_add_of_le' hn
  refine eqo_ ?_
  rw [← let_eq]; exact rng_ok _ _ _
theorem ldigit_ok (n : Nat) (hn : 1 ≤ n) (c : UInt8) : T n 13 [.one (.d (.int .u8 (natI c.toNat)))] [] = some (.one (bC (isDig c)), []) := by
  obtain ⟨m, rfl⟩ := Nat.exists_eq_add_of_le' hn
  refine eqm_ ?_
  rw [← dig_eq]; exact rng_ok _ _ _
end
section
open Go Go.Abs PT
def isLD (c : UInt8) : Bool := isLet c || isDig c
def mayB : BB → Bool
  | [] => false
  | c :: r => decide (r.length + 1 ≤ 12) && isLet c && !(kwB (c :: r)) && r.all isLD
theorem w64_succ (i : Nat) (h : i < 1000000) : w64 ((i : Int) + 1) = ((i + 1 : Nat) : Int) := by
  show IntKind.wrap .i64 _ = _
  rw [wrap_i64 (by omega) (by omega)]
  simp
theorem may_loop (n : Nat) (hn : 1 ≤ n) (q : Nat) (s : BB) (hs : s.length < 100000) : ∀ (k i : Nat), s.length - i < k → lq9__0_0 (T n) q k s (i : Int) = some (.one (bC ((s.drop i).all isLD)), [])
  | 0, i, hk => by omega
  | k + 1, i, hk => by
    rw [lq9__0_0e]
    by_cases h : i < s.length
    · have hc : s[i]? = some s[i] := List.getElem?_eq_getElem h
      have hd : s.drop i = s[i] :: s.drop (i + 1) := List.drop_eq_getElem_cons h
      have ih := may_loop n hn q s hs k (i + 1) (by omega)
      rw [hd, List.all_cons]
      generalize s[i] = c at hc hd
      rw [bif_t (by simp [natI_eq]; omega), qO_asI _ rfl, qO _ hc, nletter_ok n hn, res_b]
      dsimp only
      cases hl : isLet c with
      | true =>
        rw [bif_f (show (!true) = false from rfl), w64_succ i (by omega), ih]
        simp [isLD, hl]
      | false =>
        rw [bif_t (show (!false) = true from rfl), qO_asI _ rfl, qO _ hc, ndigit_ok n hn, res_b]
        dsimp only
        cases hg : isDig c with
        | true =>
          rw [bif_f (show (!true) = false from rfl), w64_succ i (by omega), ih]
          simp [isLD, hl, hg]
        | false =>
          rw [bif_t (show (!false) = true from rfl)]
          simp [isLD, hl, hg]
    · rw [bif_f (by simp [natI_eq]; omega), List.drop_eq_nil_of_le (by omega)]
      rfl
theorem may_ok (n : Nat) (hn : 20 ≤ n) (s : BB) : T n 30 [.one (sC s)] [] = some (.one (bC (mayB s)), []) := by
  obtain ⟨m, rfl⟩ : ∃ m, n = m + 20 := ⟨n - 20, by omega⟩
  refine eq9_ ?_
  cases s with
  | nil => rfl
  | cons c r =>
    have h1 : natI (c :: r).length = ((r.length + 1 : Nat) : Int) := by simp [natI_eq]
    rw [h1, bif_f (by simp; omega)]
    by_cases h : r.length + 1 ≤ 12
    · rw [bif_f (by simp; omega), qO (o := (c :: r)[Int.toNat 0]?) (b := c) _ rfl, nletter_ok (m + 19) (by omega), res_b]
      dsimp only
      rw [show mayB (c :: r) = (decide (r.length + 1 ≤ 12) && isLet c && !(kwB (c :: r)) && r.all isLD) from rfl, decide_eq_true h]
      cases hl : isLet c with
      | false => rfl
      | true =>
        rw [bif_f (show (!true) = false from rfl), c31, keyword_ok (m + 19) (by omega), res_b]
        dsimp only
        cases hk : kwB (c :: r) with
        | true => rfl
        | false =>
          rw [bif_f rfl, lq9__1_0e]
          rw [show (1 : Int) = ((1 : Nat) : Int) from rfl, may_loop (m + 19) (by omega) _ (c :: r) (by simp; omega) _ _ (by simp; omega)]
          rfl
    · rw [bif_t (by simp; omega)]
      rw [show mayB (c :: r) = (decide (r.length + 1 ≤ 12) && isLet c && !(kwB (c :: r)) && r.all isLD) from rfl, decide_eq_false h]
      rfl
end
section
open Go Go.Abs PT
theorem w64_len (n : Nat) (h : n < 1000000) : w64 (((n + 1 : Nat) : Int) - 1) = (n : Int) := by
  show IntKind.wrap .i64 _ = _
  rw [wrap_i64 (by omega) (by omega)]
  omega
theorem T_prim {n f : Nat} {vs : List V} {bs : List (List C)} {r : V × List (List C)} (ht : tab f = none) (h : primT f vs bs = some r) : T (n + 1) f vs bs = some r := by
  unfold T
  simp only [evN, ht]
  exact h
theorem parseInt' (n : Nat) (hn : 1 ≤ n) (s : BB) (hs : s.length ≤ 281474976710656) {z : Int} (h : Lib.parseIntB 64 s = .ok z) : T n 32 [.one (sC s), .one (iC 10), .one (iC 64)] [] = some (.tup [.one (iC z), .one .nili], []) := by
  obtain ⟨m, rfl⟩ := Nat.exists_eq_add_of_le' hn
  refine T_prim rfl ?_
  show (if (10 : Int) = 10 ∧ (64 : Int) = 64 ∧ s.length ≤ 281474976710656 then some (ofEnd (Lib.intSat 64 s) (Lib.parseIntB 64 s), []) else none) = _
  rw [if_pos ⟨rfl, rfl, hs⟩, h]
theorem res_err (z : Int) (K : (Int × Bool × Unit) × Unit → Option (V × List (List C))) : tRes (.tup [.one (.int .i64), .ifc] []) (some (.tup [.one (iC z), .one .nili], [])) K = K ((z, true, ()), ()) := rfl
def sk (k : Int) : Int := if k = 10 ∨ k = 13 ∨ k = 14 then 0 else 3
def tkOf : TT → List (Int × BB)
  | .lf k nm n tx => if k = 0 then [(0, nm)] else if k = 1 then [(1, itoaK n)] else if k = 2 then (if n = 1 then [(0, [116, 114, 117, 101])] else [(0, [102, 97, 108, 115, 101])])
      else if k = 3 then [(2, tx)] else if k = 4 then [(0, [101, 109, 112, 116, 121])] else [(0, [117, 110, 105, 116])]
  | .un k a => if k = 15 then (3, [40]) :: (0, [110, 111, 116]) :: (tkOf a ++ [(3, [41])]) else (0, [108, 101, 110]) :: (3, [40]) :: (tkOf a ++ [(3, [41])])
  | .bi k a b => if infx k = true then (3, [40]) :: (tkOf a ++ (sk k, sgn k) :: (tkOf b ++ [(3, [41])])) else (0, cll k) :: (3, [40]) :: (tkOf a ++ (3, [44]) :: (tkOf b ++ [(3, [41])]))
def lfOk (k : Int) (nm : BB) (n : Int) (tx : BB) : Prop :=
  (k = 0 ∧ mayB nm = true ∧ n = 0 ∧ tx = []) ∨ (k = 1 ∧ nm = [] ∧ tx = [] ∧ -9223372036854775808 ≤ n ∧ n ≤ 9223372036854775807) ∨ (k = 2 ∧ nm = [] ∧ tx = [] ∧ (n = 0 ∨ n = 1)) ∨
    (k = 3 ∧ nm = [] ∧ n = 0 ∧ tx.length ≤ 24) ∨ (k = 4 ∧ nm = [] ∧ n = 0 ∧ tx = []) ∨ (k = 5 ∧ nm = [] ∧ n = 0 ∧ tx = [])
def okT : TT → Prop
  | .lf k nm n tx => lfOk k nm n tx
  | .un k a => (k = 15 ∨ k = 16) ∧ okT a
  | .bi k a b => (infx k = true ∨ k = 17 ∨ k = 18 ∨ k = 19) ∧ okT a ∧ okT b
def valD (acc : Nat) (l : BB) : Nat := l.foldl (fun a c => a * 10 + (c.toNat - 48)) acc
theorem valD_le : ∀ (l : BB) (acc : Nat), acc ≤ valD acc l
  | [], acc => Nat.le_refl _
  | c :: r, acc => by
    have := valD_le r (acc * 10 + (c.toNat - 48))
    show acc ≤ valD (acc * 10 + (c.toNat - 48)) r
    omega
theorem parse_digits : ∀ (l : BB) (acc : Nat), (∀ c ∈ l, isDig c = true) → valD acc l ≤ 9223372036854775808 → Lib.parseUintM 18446744073709551615 acc l = .ok (valD acc l)
  | [], acc, _, _ => rfl
  | c :: r, acc, hd, hv => by
    have h1 := hd c (by simp)
    unfold isDig at h1
    simp only [Bool.and_eq_true, decide_eq_true_eq] at h1
    have h2 : valD acc (c :: r) = valD (acc * 10 + (c.toNat - 48)) r := rfl
    have h3 := valD_le r (acc * 10 + (c.toNat - 48))
    rw [h2] at hv ⊢
    simp only [Lib.parseUintM]
    rw [if_pos h1, if_neg (by omega), if_neg (by omega)]
    exact parse_digits r _ (fun x hx => hd x (by simp [hx])) hv
theorem u8_dig (d : Nat) (h : d < 10) : (UInt8.ofNat (48 + d)).toNat = 48 + d := by
  show (48 + d) % 256 = 48 + d
  omega
theorem isDig_d (d : Nat) (h : d < 10) : isDig (UInt8.ofNat (48 + d)) = true := by
  unfold isDig
  rw [u8_dig d h]
  simp
  omega
theorem digs_ok : ∀ (f u : Nat), u < 10 ^ (f + 1) → (∀ c ∈ digs f u, isDig c = true) ∧ valD 0 (digs f u) = u ∧ digs f u ≠ [] ∧ (digs f u).length ≤ f + 1
  | 0, u, h => by
    have h1 : u < 10 := by simpa using h
    refine ⟨fun c hc => ?_, ?_, by simp [digs], by simp [digs]⟩
    · simp [digs] at hc; subst hc; have := isDig_d u h1; simpa using this
    · show 0 * 10 + ((UInt8.ofNat (48 + u)).toNat - 48) = u
      rw [u8_dig u h1]; omega
  | f + 1, u, h => by
    simp only [digs]
    by_cases h1 : u < 10
    · rw [if_pos h1]
      refine ⟨fun c hc => ?_, ?_, by simp, by simp⟩
      · simp at hc; subst hc; have := isDig_d u h1; simpa using this
      · show 0 * 10 + ((UInt8.ofNat (48 + u)).toNat - 48) = u
        rw [u8_dig u h1]; omega
    · rw [if_neg h1]
      have ih := digs_ok f (u / 10) (by rw [Nat.pow_succ] at h; omega)
      refine ⟨fun c hc => ?_, ?_, by simp, by simp; omega⟩
      · rw [List.mem_append] at hc
        rcases hc with hc | hc
        · exact ih.1 c hc
        · rw [List.mem_singleton] at hc; subst hc; exact isDig_d (u % 10) (by omega)
      · unfold valD at ih ⊢
        rw [List.foldl_append, ih.2.1]
        show u / 10 * 10 + ((UInt8.ofNat (48 + u % 10)).toNat - 48) = u
        rw [u8_dig (u % 10) (by omega)]; omega
theorem digs_nat (f u : Nat) (h : u < 10 ^ (f + 1)) (hu : u ≤ 9223372036854775808) : Lib.parseUintB 64 (digs f u) = .ok u := by
  have h1 := digs_ok f u h
  unfold Lib.parseUintB
  rw [if_neg h1.2.2.1, show (2 : Nat) ^ 64 - 1 = 18446744073709551615 by decide, parse_digits _ _ h1.1 (by rw [h1.2.1]; exact hu), h1.2.1]
theorem parse_itoa {n : Int} (h0 : -9223372036854775808 ≤ n) (h1 : n ≤ 9223372036854775807) : Lib.parseIntB 64 (itoaK n) = .ok n := by
  unfold itoaK
  have e : (2 : Nat) ^ (64 - 1) = 9223372036854775808 := by decide
  have e2 : (10 : Nat) ^ (19 + 1) = 100000000000000000000 := by decide
  by_cases h : n < 0
  · rw [if_pos h, Lib.parseIntB_minus, digs_nat 19 n.natAbs (by rw [e2]; omega) (by omega)]
    simp only [Lib.signedC, e]
    rw [if_neg (by omega)]
    congr 1; omega
  · rw [if_neg h]
    have hd := digs_ok 19 n.toNat (by rw [e2]; omega)
    have hn := digs_nat 19 n.toNat (by rw [e2]; omega) (by omega)
    cases hc : digs 19 n.toNat with
    | nil => exact absurd hc hd.2.2.1
    | cons c r =>
      rw [hc] at hd hn
      have h3 := hd.1 c (by simp)
      unfold isDig at h3
      simp only [Bool.and_eq_true, decide_eq_true_eq] at h3
      rw [Lib.parseIntB_plain 64 c r (by omega) (by omega), hn]
      simp only [Lib.signlessC, e]
      rw [if_neg (by omega)]
      congr 1; omega
theorem itoa_len {n : Int} (h0 : -9223372036854775808 ≤ n) (h1 : n ≤ 9223372036854775807) : (itoaK n).length ≤ 21 := by
  have e2 : (10 : Nat) ^ (19 + 1) = 100000000000000000000 := by decide
  unfold itoaK
  by_cases h : n < 0
  · rw [if_pos h]
    have := (digs_ok 19 n.natAbs (by rw [e2]; omega)).2.2.2
    simp; omega
  · rw [if_neg h]
    have := (digs_ok 19 n.toNat (by rw [e2]; omega)).2.2.2
    omega
end
section
open Go Go.Abs PT
def hexL : BB := [48, 49, 50, 51, 52, 53, 54, 55, 56, 57, 97, 98, 99, 100, 101, 102]
def hexd (v : Nat) : UInt8 := hexL.getD v 0
def qc (c : UInt8) : BB := if c.toNat = 34 ∨ c.toNat = 92 then [92, c] else if c.toNat = 10 then [92, 110] else if c.toNat < 32 ∨ 126 < c.toNat then [92, 120, hexd (c.toNat / 16), hexd (c.toNat % 16)] else [c]
def quotedB (s : BB) : BB := 34 :: (s.flatMap qc ++ [34])
def txtOf : TT → BB
  | .lf k nm n tx => if k = 0 then nm else if k = 1 then itoaK n else if k = 2 then (if n = 1 then [116, 114, 117, 101] else [102, 97, 108, 115, 101])
      else if k = 3 then quotedB tx else if k = 4 then [101, 109, 112, 116, 121] else [117, 110, 105, 116]
  | .un k a => if k = 15 then [40, 110, 111, 116, 32] ++ txtOf a ++ [41] else (cll k ++ [40]) ++ txtOf a ++ [41]
  | .bi k a b => if infx k = true then [40] ++ txtOf a ++ ([32] ++ sgn k ++ [32]) ++ txtOf b ++ [41] else (cll k ++ [40]) ++ txtOf a ++ [44, 32] ++ txtOf b ++ [41]
theorem all_lt {p : Nat → Bool} {N : Nat} (h : (List.range N).all p = true) (n : Nat) (hn : n < N) : p n = true := List.all_eq_true.1 h n (List.mem_range.2 hn)
def hexC (n : Nat) : Bool := decide (asI ((natI n).fdiv ((2 : Int) ^ min 4 IntKind.u8.bits)) = some (n / 16)) && decide (hexL[n / 16]? = some (hexd (n / 16))) &&
  decide (hexL[(w8 (natI (BitVec.ofInt IntKind.u8.bits (natI n) &&& BitVec.ofInt IntKind.u8.bits (15 : Int)).toNat)).toNat]? = some (hexd (n % 16)))
theorem hexC_all : (List.range 256).all hexC = true := by kernel_rfl
theorem hex_ok (c : UInt8) : asI ((natI c.toNat).fdiv ((2 : Int) ^ min 4 IntKind.u8.bits)) = some (c.toNat / 16) ∧ hexL[c.toNat / 16]? = some (hexd (c.toNat / 16)) ∧
    hexL[(w8 (natI (BitVec.ofInt IntKind.u8.bits (natI c.toNat) &&& BitVec.ofInt IntKind.u8.bits (15 : Int)).toNat)).toNat]? = some (hexd (c.toNat % 16)) := by
  have h := all_lt hexC_all c.toNat c.toNat_lt
  unfold hexC at h
  simp only [Bool.and_eq_true, decide_eq_true_eq] at h
  exact ⟨h.1.1, h.1.2, h.2⟩
theorem strB_app (a b : BB) : D.strB (a ++ b) = D.strB a ++ D.strB b := by unfold D.strB; exact List.map_append
theorem strB_len (a : BB) : (D.strB a).length = a.length := by unfold D.strB; exact List.length_map _
theorem strB_emp {a : BB} (h : a ≠ []) : (D.strB a).isEmpty = false := by cases a with | nil => exact absurd rfl h | cons => rfl
theorem toBytes_strB : ∀ b : BB, toBytes (D.strB b) = some b
  | [] => rfl
  | c :: r => by
    show (toBytes (D.strB r)).map (UInt8.ofNat ((c.toNat : Int).toNat) :: ·) = some (c :: r)
    rw [toBytes_strB r]
    show some (UInt8.ofNat c.toNat :: r) = some (c :: r)
    rw [UInt8.ofNat_toNat]
theorem qgd (src : RR) (b : BB) (k : Nat) (hb : b ≠ []) (hl : b.length + k ≤ 1000000) :
    (u8ok 1 src (D.strB b).isEmpty && true && true && (D.strB b).length == (D.strB b).length && true && decide (((D.strB b).length + k) * 1 ≤ 140737488355328)) = true := by
  rw [strB_emp hb, strB_len, beq_self_eq_true, decide_eq_true (by omega)]
  simp [u8ok]
theorem qg (b : BB) (k : Nat) (hl : b.length + k ≤ 1000000) : ((D.strB b).length == (D.strB b).length && true && decide (((D.strB b).length + k) * 1 ≤ 140737488355328)) = true := by
  rw [strB_len, beq_self_eq_true, decide_eq_true (by omega)]
  rfl
theorem wgd (s b : BB) (hb : b ≠ []) (hl : b.length + s.length ≤ 1000000) :
    (u8ok 1 (D.strB s) (D.strB b).isEmpty && true && true && (D.strB b).length == (D.strB b).length && true && decide (((D.strB b).length + (D.strB s).length) * 1 ≤ 140737488355328)) = true := by
  rw [strB_len s]
  exact qgd (D.strB s) b s.length hb hl
theorem natI_beq (c : UInt8) (n : Nat) : (natI c.toNat == (n : Int)) = decide (c.toNat = n) := by
  rw [natI_eq]
  by_cases h : c.toNat = n
  · rw [h]; simp
  · rw [decide_eq_false h]; simp; omega
theorem quoted_loop (n q : Nat) (s : BB) (hs : s.length < 100000) : ∀ (k i : Nat) (b : BB), s.length - i < k → b ≠ [] → b.length + 4 * (s.length - i) + 1 ≤ 1000000 →
    lq5__0_0 (T n) (q + 1) k s (D.strB b) (i : Int) = some (.one (sC (b ++ (s.drop i).flatMap qc ++ [34])), [])
  | 0, i, b, hk, _, _ => by omega
  | k + 1, i, b, hk, hb, hl => by
    rw [lq5__0_0e]
    by_cases h : i < s.length
    · have hc : s[i]? = some s[i] := List.getElem?_eq_getElem h
      have hd : s.drop i = s[i] :: s.drop (i + 1) := List.drop_eq_getElem_cons h
      have ih := fun (x : BB) (hx : x.length ≤ 4) => quoted_loop n q s hs k (i + 1) (b ++ x) (by omega) (by simp [hb]) (by simp; omega)
      rw [hd, List.flatMap_cons]
      generalize s[i] = c at hc hd
      have fin : ∀ (x : BB), x.length ≤ 4 → x = qc c → lq5__1_0 (T n) (q + 1) k (q + 1) s (D.strB b ++ D.strB x) (i : Int) =
          some (.one (sC (b ++ (qc c ++ (s.drop (i + 1)).flatMap qc) ++ [34])), []) := by
        intro x hx he
        rw [lq5__1_0e]
        rw [w64_succ i (by omega), ← strB_app, ih x hx, he]
        simp
      rw [bif_t (by simp [natI_eq]; omega), qO_asI _ rfl, qO _ hc]
      rw [show (natI c.toNat == (34 : Int)) = decide (c.toNat = 34) from natI_beq c 34, show (natI c.toNat == (92 : Int)) = decide (c.toNat = 92) from natI_beq c 92, show (natI c.toNat == (10 : Int)) = decide (c.toNat = 10) from natI_beq c 10]
      by_cases h1 : c.toNat = 34
      · rw [bif_t (decide_eq_true h1)]
        refine (gd_t (qg b 2 (by omega))).trans ?_
        exact fin [92, c] (by simp) (by unfold qc; rw [if_pos (.inl h1)])
      · rw [bif_f (decide_eq_false h1)]
        by_cases h2 : c.toNat = 92
        · rw [bif_t (decide_eq_true h2)]
          refine (gd_t (qg b 2 (by omega))).trans ?_
          exact fin [92, c] (by simp) (by unfold qc; rw [if_pos (.inr h2)])
        · rw [bif_f (decide_eq_false h2)]
          by_cases h3 : c.toNat = 10
          · rw [bif_t (decide_eq_true h3)]
            refine (gd_t (qg b 2 (by omega))).trans ?_
            exact fin [92, 110] (by simp) (by unfold qc; rw [if_neg (by omega), if_pos h3])
          · rw [bif_f (decide_eq_false h3)]
            obtain ⟨x1, x2, x3⟩ := hex_ok c
            by_cases h4 : c.toNat < 32
            · rw [bif_t (decide_eq_true (show natI c.toNat < (32 : Int) by rw [natI_eq]; omega)), qO _ x1]
              refine (qO _ x2).trans ?_
              refine (qO _ x3).trans ?_
              refine (gd_t (qg b 4 (by omega))).trans ?_
              exact fin [92, 120, hexd (c.toNat / 16), hexd (c.toNat % 16)] (by simp) (by unfold qc; rw [if_neg (by omega), if_neg h3, if_pos (.inl h4)])
            · rw [bif_f (decide_eq_false (show ¬ natI c.toNat < (32 : Int) by rw [natI_eq]; omega))]
              by_cases h5 : 126 < c.toNat
              · rw [bif_t (decide_eq_true (show natI c.toNat > (126 : Int) by rw [natI_eq]; omega)), qO _ x1]
                refine (qO _ x2).trans ?_
                refine (qO _ x3).trans ?_
                refine (gd_t (qg b 4 (by omega))).trans ?_
                exact fin [92, 120, hexd (c.toNat / 16), hexd (c.toNat % 16)] (by simp) (by unfold qc; rw [if_neg (by omega), if_neg h3, if_pos (.inr h5)])
              · rw [bif_f (decide_eq_false (show ¬ natI c.toNat > (126 : Int) by rw [natI_eq]; omega))]
                refine (gd_t (qg b 1 (by omega))).trans ?_
                exact fin [c] (by simp) (by unfold qc; rw [if_neg (by omega), if_neg h3, if_neg (by omega)])
    · rw [bif_f (by simp [natI_eq]; omega), List.drop_eq_nil_of_le (by omega)]
      refine (gd_t (qg b 1 (by omega))).trans ?_
      refine (qO (b := b ++ [34]) _ ?_).trans ?_
      · exact (congrArg toBytes (strB_app b [34]).symm).trans (toBytes_strB _)
      · simp
theorem quoted_ok (n : Nat) (hn : 2 ≤ n) (s : BB) (hs : s.length + 1 < n) (h2 : s.length < 10000) : T n 63 [.one (sC s)] [] = some (.one (sC (quotedB s)), []) := by
  obtain ⟨m, rfl⟩ : ∃ m, n = m + 2 := ⟨n - 2, by omega⟩
  refine eq5_ ?_
  have := quoted_loop (m + 1) m s (by omega) (m + 1) 0 [34] (by omega) (by simp) (by simp; omega)
  exact (show lq5__0_0 (T (m + 1)) (m + 1) (m + 1) s [[D.int .u8 34]] 0 = _ from this).trans (by simp [quotedB])
def tgB (b : BB) : Tag × RR := match b with | [] => (.im true, []) | _ => (.own, D.strB b)
abbrev bB (b : BB) : RowT sh2 := ((), tgB b, ())
theorem res_bld (z : Int) (p : RowT sh2) {R : Type} (K : (Int × Bool × Unit) × RowT sh2 × Unit → Option R) : tRes rs8 (some (.tup [.one (iC z), .one .nili], [bx sh2 p])) K = K ((z, true, ()), p, ()) := by
  obtain ⟨u, ⟨t, r⟩, u2⟩ := p
  cases u; cases u2
  rfl
theorem res_bup (p : RowT sh2) {R : Type} (K : Unit × RowT sh2 × Unit → Option R) : tRes rs4 (some (.tup [], [bx sh2 p])) K = K ((), p, ()) := by
  obtain ⟨u, ⟨t, r⟩, u2⟩ := p
  cases u; cases u2
  rfl
theorem cc' (n : Nat) (hn : 1 ≤ n) (p : RowT sh2) : T n 49 [pE] [bx sh2 p] = some (.tup [], [bx sh2 p]) := by
  obtain ⟨m, rfl⟩ := Nat.exists_eq_add_of_le' hn
  refine T_prim rfl ?_
  obtain ⟨u, ⟨t, r⟩, u2⟩ := p
  cases u; cases u2
  rfl
theorem write' (n : Nat) (hn : 2 ≤ n) (s b : BB) (hl : b.length + s.length ≤ 1000000) : T n 25 [pE, .one (sC s)] [bx sh2 (bB b)] = some (.tup [.one (iC (s.length : Int)), .one .nili], [bx sh2 (bB (b ++ s))]) := by
  obtain ⟨m, rfl⟩ := Nat.exists_eq_add_of_le' hn
  refine eqp_ ?_
  rw [c49, cc' (m + 1) (by omega), res_bup]
  cases b with
  | nil =>
    dsimp only [tgB, tagI]
    refine (gd_t ?_).trans ?_
    · rw [strB_len, decide_eq_true (by simp at hl; omega)]
      simp [u8ok]
    · cases s with
      | nil => rfl
      | cons c r => rfl
  | cons c r =>
    dsimp only [tgB, tagI]
    refine (gd_t ?_).trans ?_
    · exact wgd s (c :: r) (by simp) hl
    · rw [← strB_app]
      rfl
theorem itoa' (n : Nat) (hn : 1 ≤ n) {z : Int} (h0 : -9223372036854775808 ≤ z) (h1 : z ≤ 9223372036854775807) : T n 61 [.one (iC z), .one (iC 10)] [] = some (.one (sC (itoaK z)), []) := by
  obtain ⟨m, rfl⟩ := Nat.exists_eq_add_of_le' hn
  refine T_prim rfl ?_
  show (if (10 : Int) = 10 ∧ -9223372036854775808 ≤ z ∧ z ≤ 9223372036854775807 then some (V.one (.d (.str (itoaK z))), ([] : List (List C))) else none) = _
  rw [if_pos ⟨rfl, h0, h1⟩]
theorem bool' (n : Nat) (hn : 2 ≤ n) (b : Bool) : T n 62 [.one (bC b)] [] = some (V.one (sC (if b then [116, 114, 117, 101] else [102, 97, 108, 115, 101])), []) := by
  obtain ⟨m, rfl⟩ := Nat.exists_eq_add_of_le' hn
  refine eqw_ (tr_s (b := if b then [116, 114, 117, 101] else [102, 97, 108, 115, 101]) (eqz_ ?_) rfl)
  cases b <;> rfl
theorem bif_beq_f {k c : Int} {R : Type} {x y : R} (h : k ≠ c) : (bif k == c then x else y) = y := by rw [bif_f (by simpa using h)]
theorem leafT (n : Nat) (hn : 40 ≤ n) {k : Int} {nm : BB} {z : Int} {tx : BB} (h : lfOk k nm z tx) (x y : Int) : T n 36 [.agg [iC k, sC nm, iC z, sC tx, iC x, iC y]] [] = some (.one (sC (txtOf (.lf k nm z tx))), []) := by
  obtain ⟨m, rfl⟩ : ∃ m, n = m + 40 := ⟨n - 40, by omega⟩
  refine eqr_ ?_
  rcases h with ⟨rfl, h, rfl, rfl⟩ | ⟨rfl, rfl, rfl, h, h'⟩ | ⟨rfl, rfl, rfl, h⟩ | ⟨rfl, rfl, rfl, h⟩ | ⟨rfl, rfl, rfl, rfl⟩ | ⟨rfl, rfl, rfl, rfl⟩
  · rfl
  · rw [bif_f (by decide), bif_t (by decide), c61, itoa' (m + 39) (by omega) h h', res_s]; rfl
  · rw [bif_f (by decide), bif_f (by decide), bif_t (by decide), c62, bool' (m + 39) (by omega), res_s]
    rcases h with rfl | rfl <;> rfl
  · rw [bif_f (by decide), bif_f (by decide), bif_f (by decide), bif_t (by decide), c63, quoted_ok (m + 39) (by omega) tx (by omega) (by omega), res_s]; rfl
  · rfl
  · rfl
theorem psign' (n : Nat) (hn : 1 ≤ n) (k : Int) : T n 37 [.one (iC k)] [] = some (.one (sC (sgn k)), []) := by
  obtain ⟨m, rfl⟩ := Nat.exists_eq_add_of_le' hn
  refine eqs_ ?_
  unfold sgn
  repeat' split
  all_goals (try subst_vars)
  all_goals (first | rfl | (simp only [bif_beq_f, *, ne_eq, not_false_eq_true, not_true_eq_false]; done) | skip)
  all_goals (repeat (first | rw [bif_beq_f (by assumption)] | rfl))
theorem pcall' (n : Nat) (hn : 1 ≤ n) (k : Int) : T n 38 [.one (iC k)] [] = some (.one (sC (cll k)), []) := by
  obtain ⟨m, rfl⟩ := Nat.exists_eq_add_of_le' hn
  refine eqt_ ?_
  unfold cll
  repeat' split
  all_goals (try subst_vars)
  all_goals (first | rfl | skip)
  all_goals (repeat (first | rw [bif_beq_f (by assumption)] | rfl))
end
section
open Go Go.Abs PT
theorem g63_t {R : Type} {n : Nat} {x : Option R} (h : n ≤ 9223372036854775807) : g63 n x = x := by unfold g63; rw [decide_eq_true h]; rfl
theorem TT.at_nat {l : RR} : ∀ {t : TT} {i : Int}, t.at_ l i → ∃ j : Nat, i = j
  | .lf .., _, ⟨j, h, _⟩ => ⟨j, h⟩
  | .un .., _, ⟨j, _, h, _⟩ => ⟨j, h⟩
  | .bi .., _, ⟨j, _, _, h, _⟩ => ⟨j, h⟩
theorem sgn_len (k : Int) : (sgn k).length ≤ 3 := by
  unfold sgn
  repeat' split
  all_goals decide
theorem cll_len (k : Int) : (cll k).length ≤ 4 := by
  unfold cll
  repeat' split
  all_goals decide
theorem sgn_infx {k : Int} (h : infx k = true) : (sgn k == []) = false := by
  unfold infx at h; simp only [Bool.and_eq_true, decide_eq_true_eq] at h
  have : k = 6 ∨ k = 7 ∨ k = 8 ∨ k = 9 ∨ k = 10 ∨ k = 11 ∨ k = 12 ∨ k = 13 ∨ k = 14 := by omega
  rcases this with rfl | rfl | rfl | rfl | rfl | rfl | rfl | rfl | rfl <;> rfl
section
variable (x0 : Bool) (l : RR)
theorem put_tree : ∀ (t : TT), okT t → ∀ (i : Int), t.at_ l i → ∃ c, ∀ n, c ≤ n → ∀ b : BB, b.length + (txtOf t).length ≤ 1000000 →
    T n 22 [pE, .one (lC (.im x0) 6 l), .one (iC i)] [bx sh2 (bB b)] = some (.tup [], [bx sh2 (bB (b ++ txtOf t))])
  | .lf k nm z tx, h, i, ⟨j, hi, hr⟩ => by
    refine ⟨60, fun n hn b hb => ?_⟩
    obtain ⟨m, rfl⟩ : ∃ m, n = m + 60 := ⟨n - 60, by omega⟩
    refine eqg_ ?_
    refine iR_of (v := (k, nm, z, tx, -1, -1, ())) hi hr (Nat.le_refl 6) rfl ?_
    dsimp only
    rw [bif_t (decide_eq_true (show (-1 : Int) < 0 by omega)), c36, leafT (m + 59) (by omega) h, res_s]
    dsimp only
    rw [c25, write' (m + 59) (by omega) _ _ hb, res_bld]
    rfl
  | .un k a, h, i, ⟨j, x, hi, hr, ha⟩ => by
    obtain ⟨c, ih⟩ := put_tree a h.2 x ha
    obtain ⟨jx, hx⟩ := (TT.at_nat ha)
    have hx0 : ¬ x < 0 := by omega
    refine ⟨c + 60, fun n hn b hb => ?_⟩
    obtain ⟨m, rfl⟩ : ∃ m, n = m + 60 := ⟨n - 60, by omega⟩
    refine eqg_ ?_
    refine iR_of (v := (k, [], 0, [], x, -1, ())) hi hr (Nat.le_refl 6) rfl ?_
    dsimp only
    rw [bif_f (decide_eq_false hx0)]
    rcases h.1 with rfl | rfl
    · have e : txtOf (.un 15 a) = [40, 110, 111, 116, 32] ++ txtOf a ++ [41] := rfl
      rw [e] at hb ⊢
      simp only [List.length_append, List.length_cons, List.length_nil] at hb
      rw [bif_t (by decide), c25, write' (m + 59) (by omega) _ _ (by simp; omega), res_bld]
      dsimp only
      rw [bif_t rfl, c22, ih (m + 59) (by omega) _ (by simp; omega), res_bup]
      dsimp only
      rw [c25, write' (m + 59) (by omega) _ _ (by simp; omega), res_bld]
      dsimp only
      rw [bif_t rfl]
      simp only [List.append_assoc]
    · have e : txtOf (.un 16 a) = [108, 101, 110, 40] ++ txtOf a ++ [41] := rfl
      rw [e] at hb ⊢
      simp only [List.length_append, List.length_cons, List.length_nil] at hb
      rw [bif_f (by decide), c37, psign' (m + 59) (by omega), res_s]
      dsimp only
      rw [bif_f (by decide), c38, pcall' (m + 59) (by omega), res_s]
      dsimp only
      refine (g63_t (by have := cll_len 16; omega)).trans ?_
      rw [show cll 16 ++ [40] = [108, 101, 110, 40] from rfl, c25, write' (m + 59) (by omega) _ _ (by simp; omega), res_bld]
      dsimp only
      rw [bif_t rfl, c22, ih (m + 59) (by omega) _ (by simp; omega), res_bup]
      dsimp only
      rw [bif_f (decide_eq_false (show ¬ (-1 : Int) ≥ 0 by omega)), c25, write' (m + 59) (by omega) _ _ (by simp; omega), res_bld]
      dsimp only
      rw [bif_t rfl]
      simp only [List.append_assoc]
  | .bi k a a', h, i, ⟨j, x, y, hi, hr, ha, ha'⟩ => by
    obtain ⟨c, ih⟩ := put_tree a h.2.1 x ha
    obtain ⟨c', ih'⟩ := put_tree a' h.2.2 y ha'
    obtain ⟨jx, hx⟩ := (TT.at_nat ha)
    obtain ⟨jy, hy⟩ := (TT.at_nat ha')
    have hx0 : ¬ x < 0 := by omega
    have hy0 : y ≥ 0 := by omega
    refine ⟨c + c' + 60, fun n hn b hb => ?_⟩
    obtain ⟨m, rfl⟩ : ∃ m, n = m + 60 := ⟨n - 60, by omega⟩
    have hk15 : k ≠ 15 := by
      rintro rfl
      rcases h.1 with h | h | h | h
      · exact absurd h (by decide)
      · cases h
      · cases h
      · cases h
    refine eqg_ ?_
    refine iR_of (v := (k, [], 0, [], x, y, ())) hi hr (Nat.le_refl 6) rfl ?_
    dsimp only
    rw [bif_f (decide_eq_false hx0), bif_beq_f hk15, c37, psign' (m + 59) (by omega), res_s]
    dsimp only
    by_cases hk : infx k = true
    · have e : txtOf (.bi k a a') = [40] ++ txtOf a ++ ([32] ++ sgn k ++ [32]) ++ txtOf a' ++ [41] := by simp only [txtOf, hk, if_true]
      rw [e] at hb ⊢
      have hs := sgn_len k
      simp only [List.length_append, List.length_cons, List.length_nil] at hb
      rw [bif_t (by rw [sgn_infx hk]; rfl), c25, write' (m + 59) (by omega) _ _ (by simp; omega), res_bld]
      dsimp only
      rw [bif_t rfl, c22, ih (m + 59) (by omega) _ (by simp; omega), res_bup]
      dsimp only
      rw [c37, psign' (m + 59) (by omega), res_s]
      dsimp only
      refine (gd_t (decide_eq_true (show 1 + (sgn k).length ≤ 9223372036854775807 by omega))).trans ?_
      refine (g63_t (show ([32] ++ sgn k : BB).length + 1 ≤ 9223372036854775807 by simp; omega)).trans ?_
      rw [c25, write' (m + 59) (by omega) _ _ (by simp; omega), res_bld]
      dsimp only
      rw [bif_t rfl, c22, ih' (m + 59) (by omega) _ (by simp; omega), res_bup]
      dsimp only
      rw [c25, write' (m + 59) (by omega) _ _ (by simp; omega), res_bld]
      dsimp only
      rw [bif_t rfl]
      simp only [List.append_assoc]
    · have e : txtOf (.bi k a a') = (cll k ++ [40]) ++ txtOf a ++ [44, 32] ++ txtOf a' ++ [41] := by simp only [txtOf, hk, if_false]; rfl
      have hk' : k = 17 ∨ k = 18 ∨ k = 19 := by rcases h.1 with h | h; exact absurd h hk; exact h
      have hsg : sgn k = [] := by rcases hk' with rfl | rfl | rfl <;> rfl
      rw [e] at hb ⊢
      have hs := cll_len k
      simp only [List.length_append, List.length_cons, List.length_nil] at hb
      rw [hsg, bif_f (by decide), c38, pcall' (m + 59) (by omega), res_s]
      dsimp only
      refine (g63_t (by omega)).trans ?_
      rw [c25, write' (m + 59) (by omega) _ _ (by simp; omega), res_bld]
      dsimp only
      rw [bif_t rfl, c22, ih (m + 59) (by omega) _ (by simp; omega), res_bup]
      dsimp only
      rw [bif_t (decide_eq_true hy0), c25, write' (m + 59) (by omega) _ _ (by simp; omega), res_bld]
      dsimp only
      rw [bif_t rfl, c22, ih' (m + 59) (by omega) _ (by simp; omega), res_bup]
      dsimp only
      rw [c25, write' (m + 59) (by omega) _ _ (by simp; omega), res_bld]
      dsimp only
      rw [bif_t rfl]
      simp only [List.append_assoc]
theorem sgd (b : BB) (hb : b ≠ []) (hl : b.length ≤ 1000000) : ((D.strB b).length == (D.strB b).length && !((D.strB b).length == 0) && decide ((D.strB b).length ≤ 140737488355328)) = true := by
  rw [strB_len, beq_self_eq_true, decide_eq_true (by omega)]
  cases b with
  | nil => exact absurd rfl hb
  | cons => rfl
theorem string' (n : Nat) (hn : 1 ≤ n) (b : BB) (hb : b ≠ []) (hl : b.length ≤ 1000000) : T n 23 [pE] [bx sh2 (bB b)] = some (.one (sC b), [bx sh3 ((), (), ())]) := by
  obtain ⟨m, rfl⟩ := Nat.exists_eq_add_of_le' hn
  refine eql_ ?_
  cases b with
  | nil => exact absurd rfl hb
  | cons c r =>
    dsimp only [tgB, tagI]
    have h0 : ((D.strB (c :: r)).length == 0) = false := by rw [strB_len]; rfl
    refine (gd_t (by rw [h0]; rfl)).trans ?_
    refine (gd_t (sgd (c :: r) (by simp) hl)).trans ?_
    exact (qO _ (toBytes_strB (c :: r))).trans rfl
theorem res_str5 (s : BB) {R : Type} (K : BB × RowT sh3 × Unit → Option R) : tRes rs5 (some (.one (sC s), [bx sh3 ((), (), ())])) K = K (s, ((), (), ()), ()) := rfl
theorem txt_ne : ∀ {t : TT}, okT t → txtOf t ≠ []
  | .lf k nm z tx, h => by
    rcases h with ⟨rfl, h, rfl, rfl⟩ | ⟨rfl, rfl, rfl, h, h'⟩ | ⟨rfl, rfl, rfl, h⟩ | ⟨rfl, rfl, rfl, h⟩ | ⟨rfl, rfl, rfl, rfl⟩ | ⟨rfl, rfl, rfl, rfl⟩
    · intro h1
      have : nm = [] := h1
      subst this
      cases h
    · intro h1
      have hp := parse_itoa h h'
      rw [show itoaK z = [] from h1] at hp
      cases hp
    · rcases h with rfl | rfl <;> simp [txtOf]
    · simp [txtOf, quotedB]
    · simp [txtOf]
    · simp [txtOf]
  | .un k a, h => by simp only [txtOf]; split <;> simp
  | .bi k a b, h => by simp only [txtOf]; split <;> simp
theorem term_txt {t : TT} (h : okT t) {i : Int} (ha : t.at_ l i) (hl : (txtOf t).length ≤ 1000000) {cM : Nat} (hM : ∀ n, cM ≤ n → T n 5 [.one (lC (.im x0) 6 l), .one (iC i)] [] = some (.one (bC true), [])) :
    ∃ c, ∀ n, c ≤ n → T n 7 [.one (lC (.im x0) 6 l), .one (iC i)] [] = some (.one (sC (txtOf t)), []) := by
  obtain ⟨c, hp⟩ := put_tree x0 l t h i ha
  refine ⟨c + cM + 3, fun n hn => ?_⟩
  obtain ⟨m, rfl⟩ : ∃ m, n = m + 1 := ⟨n - 1, by omega⟩
  refine eqj_ ?_
  rw [c5, hM m (by omega), res_b]
  dsimp only
  rw [bif_f (show (!true) = false from rfl)]
  have := hp m (by omega) [] (by simpa using hl)
  rw [List.nil_append] at this
  have e : (bx sh2 ((), ((Tag.im true), []), ())) = bx sh2 (bB []) := rfl
  rw [c22, e, this, res_bup]
  dsimp only
  rw [c23, string' m (by omega) _ (txt_ne h) hl, res_str5]
end
end
section
open Go Go.Abs PT
structure TR where
  k : Int
  nm : BB
  n : Int
  tx : BB
  x : Int
  y : Int
def cR (t : TR) : List D := row t.k t.nm t.n t.tx t.x t.y
def opsK (k : Int) : Int := if k = 0 ∨ k = 1 ∨ k = 2 ∨ k = 3 ∨ k = 4 ∨ k = 5 then 0 else if k = 15 ∨ k = 16 then 1
  else if k = 6 ∨ k = 7 ∨ k = 8 ∨ k = 9 ∨ k = 10 ∨ k = 11 ∨ k = 12 ∨ k = 13 ∨ k = 14 ∨ k = 17 ∨ k = 18 ∨ k = 19 then 2 else -1
def fldB (t : TR) : Bool :=
  bif t.k == 0 then (bif mayB t.nm then (bif t.n == 0 then t.tx == [] else false) else false)
  else bif t.k == 1 then (bif t.nm == [] then t.tx == [] else false)
  else bif t.k == 2 then (bif t.nm == [] then (bif t.tx == [] then (bif t.n == 0 then true else t.n == 1) else false) else false)
  else bif t.k == 3 then (bif t.nm == [] then (bif t.n == 0 then decide (t.tx.length ≤ 24) else false) else false)
  else (bif t.nm == [] then (bif t.n == 0 then t.tx == [] else false) else false)
abbrev WF := Nat → Int → List Bool → Bool × List Bool
def stp (rc : WF) (ops i to : Int) (a : Nat) (d : Int) (m : List Bool) : Bool × List Bool :=
  bif decide (i ≥ ops) then (decide (to = -1), m) else bif decide (to < 0) then (false, m) else bif decide (to ≥ (a : Int)) then (false, m) else rc to.toNat (d + 1) m
def wkB (rc : WF) (l : List TR) (a : Nat) (d : Int) (m : List Bool) : Bool × List Bool :=
  match l[a]? with
  | none => (false, m)
  | some t =>
    bif m.getD a false then (false, m) else bif decide (d > 24) then (false, m) else bif decide (opsK t.k < 0) then (false, m) else bif !(fldB t) then (false, m)
    else bif (stp rc (opsK t.k) 0 t.x a d (m.set a true)).1 then stp rc (opsK t.k) 1 t.y a d (stp rc (opsK t.k) 0 t.x a d (m.set a true)).2 else (false, (stp rc (opsK t.k) 0 t.x a d (m.set a true)).2)
def wk (l : List TR) : Nat → WF
  | 0 => fun _ _ m => (false, m)
  | f + 1 => wkB (wk l f) l
theorem operands' (n : Nat) (hn : 2 ≤ n) (k : Int) : T n 11 [.one (iC k)] [] = some (.one (iC (opsK k)), []) := by
  obtain ⟨m, rfl⟩ := Nat.exists_eq_add_of_le' hn
  refine eqh_ ?_
  by_cases h0 : k = 0 ∨ k = 1 ∨ k = 2 ∨ k = 3 ∨ k = 4 ∨ k = 5
  · rcases h0 with rfl | rfl | rfl | rfl | rfl | rfl <;> rfl
  by_cases h1 : k = 15 ∨ k = 16
  · rcases h1 with rfl | rfl <;> rfl
  by_cases h2 : k = 6 ∨ k = 7 ∨ k = 8 ∨ k = 9 ∨ k = 10 ∨ k = 11 ∨ k = 12 ∨ k = 13 ∨ k = 14 ∨ k = 17 ∨ k = 18 ∨ k = 19
  · rcases h2 with rfl | rfl | rfl | rfl | rfl | rfl | rfl | rfl | rfl | rfl | rfl | rfl <;> rfl
  rw [show opsK k = -1 by unfold opsK; rw [if_neg h0, if_neg h1, if_neg h2]]
  simp only [not_or] at h0 h1 h2
  rw [bif_beq_f h0.1, bif_beq_f h0.2.1, bif_beq_f h0.2.2.1, bif_beq_f h0.2.2.2.1, bif_beq_f h0.2.2.2.2.1, bif_beq_f h0.2.2.2.2.2, bif_beq_f h1.1, bif_beq_f h1.2, bif_beq_f h2.1, bif_beq_f h2.2.1, bif_beq_f h2.2.2.1, bif_beq_f h2.2.2.2.1, bif_beq_f h2.2.2.2.2.1, bif_beq_f h2.2.2.2.2.2.1, bif_beq_f h2.2.2.2.2.2.2.1, bif_beq_f h2.2.2.2.2.2.2.2.1, bif_beq_f h2.2.2.2.2.2.2.2.2.1, bif_beq_f h2.2.2.2.2.2.2.2.2.2.1, bif_beq_f h2.2.2.2.2.2.2.2.2.2.2.1, bif_beq_f h2.2.2.2.2.2.2.2.2.2.2.2]
  rfl
theorem bif_ans {b : Bool} {p q : OR} {x y : Bool} (h : p = some (.one (bC x), [])) (h' : q = some (.one (bC y), [])) : (bif b then p else q) = some (.one (bC (bif b then x else y)), []) := by
  subst h h'; cases b <;> rfl
theorem fields' (n : Nat) (hn : 30 ≤ n) (t : TR) : T n 12 [.agg [iC t.k, sC t.nm, iC t.n, sC t.tx, iC t.x, iC t.y]] [] = some (.one (bC (fldB t)), []) := by
  obtain ⟨m, rfl⟩ : ∃ m, n = m + 30 := ⟨n - 30, by omega⟩
  refine eqq_ ?_
  unfold fldB
  rw [c30, may_ok (m + 29) (by omega), res_b]
  dsimp only
  refine bif_ans (bif_ans (bif_ans rfl rfl) rfl) (bif_ans (bif_ans rfl rfl) (bif_ans (bif_ans (bif_ans (bif_ans rfl rfl) rfl) rfl) (bif_ans (bif_ans (bif_ans ?_ rfl) rfl) (bif_ans (bif_ans rfl rfl) rfl))))
  exact congrArg (fun b => (some (V.one (bC b), []) : OR)) (decide_eq_decide.2 (show natI t.tx.length ≤ 24 ↔ t.tx.length ≤ 24 by rw [natI_eq]; omega))
theorem tRow_b {R : Type} (z : Bool) (K : RowT [.bool] → Option R) : tRow [.bool] (List.take 1 (List.drop 0 [.bool z])) K = K (z, ()) := rfl
section
variable (x0 : Bool) (l : List TR)
abbrev bxL (x0 : Bool) (l : List TR) : RowT [.tg 6] := ((.im x0, l.map cR), ())
abbrev bxM (m : List Bool) : RowT [.tg 1] := ((.own, m.map fun b => [D.bool b]), ())
abbrev bxF : RowT sh1 := ((), ())
theorem res_w (b : Bool) (m : List Bool) {R : Type} (K : Bool × RowT [.tg 6] × RowT [.tg 1] × RowT sh1 × Unit → Option R) :
    tRes rs3 (some (.one (bC b), [bx [.tg 6] (bxL x0 l), bx [.tg 1] (bxM m), bx sh1 bxF])) K = K (b, bxL x0 l, bxM m, bxF, ()) := rfl
abbrev ansW (r : Bool × List Bool) : OR := some (.one (bC r.1), [bx [.tg 6] (bxL x0 l), bx [.tg 1] (bxM r.2), bx sh1 bxF])
def WOk (n : Nat) (rc : WF) (d : Int) : Prop := ∀ (c : Nat) (m : List Bool), c < l.length → m.length = l.length →
  T n 10 [.one (iC (c : Int)), .one (iC d), pE, .one (.ptr (.e 1) 0 0), .one (.ptr (.e 2) 0 0)] [bx [.tg 6] (bxL x0 l), bx [.tg 1] (bxM m), bx sh1 bxF] = ansW x0 l (rc c d m)
variable {x0 l}
theorem it (n q k : Nat) (rc : WF) (a : Nat) (d : Int) (hd : -1000 < d ∧ d < 1000) (hw : WOk x0 l n rc (d + 1)) (ha : a < l.length) {x2 x3 x4} (m : List Bool) (hm : m.length = l.length) (ops : Int) (L R : Int) (i : Nat) (to : Int)
    (hi : (i = 0 ∧ to = L) ∨ (i = 1 ∧ to = R)) :
    lq6__0_0 (T n) q x2 x3 x4 (k + 1) (a : Int) d (bxL x0 l) (bxM m) bxF ops [[.int .i64 L], [.int .i64 R]] 2 (i : Int) =
      bif (stp rc ops i to a d m).1 then lq6__0_0 (T n) q x2 x3 x4 k (a : Int) d (bxL x0 l) (bxM (stp rc ops i to a d m).2) bxF ops [[.int .i64 L], [.int .i64 R]] 2 ((i + 1 : Nat) : Int)
      else ansW x0 l (false, (stp rc ops i to a d m).2) := by
  rw [lq6__0_0e]
  have hi2 : i < 2 := by omega
  rw [bif_t (decide_eq_true (by omega))]
  have hr : ([[.int .i64 L], [.int .i64 R]] : RR)[i]? = some [.int .i64 to] := by
    rcases hi with ⟨rfl, rfl⟩ | ⟨rfl, rfl⟩ <;> rfl
  refine iV_of (v := (to, ())) rfl hr (Nat.le_refl 1) rfl ?_
  dsimp only
  have w1 : w64 ((i : Int) + 1) = ((i + 1 : Nat) : Int) := w64_succ i (by omega)
  rw [w1]
  unfold stp
  by_cases h1 : (i : Int) ≥ ops
  · rw [bif_t (decide_eq_true h1), bif_t (decide_eq_true h1)]
    by_cases h2 : to = -1
    · subst h2
      rw [bif_f (by decide)]
      rfl
    · rw [bif_t (by simpa using h2), decide_eq_false h2]
      rfl
  · rw [bif_f (decide_eq_false h1), bif_f (decide_eq_false h1)]
    by_cases h2 : to < 0
    · rw [bif_t (decide_eq_true h2), bif_t (decide_eq_true h2)]
      rfl
    · rw [bif_f (decide_eq_false h2), bif_f (decide_eq_false h2)]
      by_cases h3 : to ≥ (a : Int)
      · rw [bif_t (decide_eq_true h3), bif_t (decide_eq_true h3)]
        rfl
      · rw [bif_f (decide_eq_false h3), bif_f (decide_eq_false h3)]
        have e1 : w64 (d + 1) = d + 1 := by show IntKind.wrap .i64 _ = _; rw [wrap_i64 (by omega) (by omega)]
        have e2 : to = ((to.toNat : Nat) : Int) := by omega
        have := hw to.toNat m (by omega) hm
        rw [← e2] at this
        rw [e1]
        refine (congrArg (fun o => tRes rs3 o _) this).trans ?_
        rw [res_w]
        dsimp only
        cases (rc to.toNat (d + 1) m).1 <;> rfl
theorem stp_len {rc : WF} (hl : ∀ c d m, m.length = l.length → (rc c d m).2.length = l.length) (ops i to : Int) (a : Nat) (d : Int) (m : List Bool) (hm : m.length = l.length) : (stp rc ops i to a d m).2.length = l.length := by
  unfold stp
  cases decide (i ≥ ops)
  · cases decide (to < 0)
    · cases decide (to ≥ (a : Int))
      · exact hl _ _ _ hm
      · exact hm
    · exact hm
  · exact hm
theorem wk_len : ∀ (f : Nat) (c : Nat) (d : Int) (m : List Bool), m.length = l.length → (wk l f c d m).2.length = l.length
  | 0, c, d, m, hm => hm
  | f + 1, c, d, m, hm => by
    have ih := wk_len f
    show (wkB (wk l f) l c d m).2.length = _
    unfold wkB
    cases l[c]? with
    | none => exact hm
    | some t =>
      dsimp only
      cases m.getD c false with
      | true => exact hm
      | false =>
        cases decide (d > 24) with
        | true => exact hm
        | false =>
          cases decide (opsK t.k < 0) with
          | true => exact hm
          | false =>
            cases !(fldB t) with
            | true => exact hm
            | false =>
              have h1 := stp_len ih (opsK t.k) 0 t.x c d (m.set c true) (by simpa using hm)
              dsimp only [cond_false]
              cases (stp (wk l f) (opsK t.k) 0 t.x c d (m.set c true)).1 with
              | true => exact stp_len ih _ _ _ _ _ _ h1
              | false => exact h1
theorem walk_ok : ∀ (f : Nat) (d : Int), 1 ≤ d → d ≤ 25 → 26 ≤ (f : Int) + d → ∀ n, 60 + f ≤ n → WOk x0 l n (wk l f) d
  | 0, d, h1, h2, h3, n, hn => by omega
  | f + 1, d, h1, h2, h3, n, hn => by
    intro a m ha hm
    obtain ⟨n, rfl⟩ : ∃ n', n = n' + 60 := ⟨n - 60, by omega⟩
    refine eq6_ ?_
    have hta : l[a]? = some l[a] := List.getElem?_eq_getElem ha
    generalize l[a] = t at hta
    have hma : m[a]? = some (m.getD a false) := by
      rw [List.getD_eq_getElem?_getD, List.getElem?_eq_getElem (by omega)]; rfl
    refine tg_im (iR_of (v := (t.k, t.nm, t.n, t.tx, t.x, t.y, ())) rfl (show (l.map cR)[a]? = some (cR t) by rw [List.getElem?_map, hta]; rfl) (Nat.le_refl 6) rfl ?_)
    dsimp only
    refine tr_i (operands' (n + 59) (by omega) t.k) (tg_own (iV_of (v := (m.getD a false, ())) rfl (show (m.map fun b => [D.bool b])[a]? = some [D.bool (m.getD a false)] by rw [List.getElem?_map, hma]; rfl) (Nat.le_refl 1) rfl ?_))
    dsimp only
    show _ = ansW x0 l (wkB (wk l f) l a d m)
    unfold wkB
    rw [hta]
    dsimp only
    cases m.getD a false with
    | true => rfl
    | false =>
      rw [cond_false, cond_false]
      by_cases g1 : d > 24
      · rw [bif_t (decide_eq_true g1), bif_t (decide_eq_true g1)]
      · rw [bif_f (decide_eq_false g1), bif_f (decide_eq_false g1)]
        by_cases g2 : opsK t.k < 0
        · rw [bif_t (decide_eq_true g2), bif_t (decide_eq_true g2)]
        · rw [bif_f (decide_eq_false g2), bif_f (decide_eq_false g2), c12, fields' (n + 59) (by omega), res_b]
          dsimp only
          cases fldB t with
          | false => rfl
          | true =>
            rw [bif_f (show (!true) = false from rfl), bif_f (show (!true) = false from rfl), lq6__1_0e]
            dsimp only [tagI]
            rw [qO_asI _ rfl]
            refine (gd_t (decide_eq_true (by rw [List.length_map]; omega))).trans ?_
            refine (qO (b := [D.bool (m.getD a false)]) _ (by rw [Nat.zero_add, List.getElem?_map, hma]; rfl)).trans ?_
            refine (gd_t rfl).trans ?_
            rw [tRow_b]
            have hset : rset (m.map fun b => [D.bool b]) (0 + a) 0 (D.bool true) = (m.set a true).map fun b => [D.bool b] := by
              unfold rset
              rw [Nat.zero_add, List.map_set]
              congr 1
              rw [List.getD_eq_getElem?_getD, List.getElem?_map, hma]
              rfl
            rw [hset]
            have hw : WOk x0 l (n + 59) (wk l f) (d + 1) := walk_ok f (d + 1) (by omega) (by omega) (by omega) (n + 59) (by omega)
            have hs0 : (m.set a true).length = l.length := by simpa using hm
            have e0 := it (n + 59) (n + 59) (n + 58) (wk l f) a d (by omega) hw ha (x2 := bxL x0 l) (x3 := bxM m) (x4 := bxF) (m.set a true) hs0 (opsK t.k) t.x t.y 0 t.x (.inl ⟨rfl, rfl⟩)
            refine e0.trans ?_
            have hs1 := stp_len (wk_len f) (opsK t.k) 0 t.x a d (m.set a true) hs0
            rw [show ((0 : Nat) : Int) = 0 from rfl] at *
            generalize stp (wk l f) (opsK t.k) 0 t.x a d (m.set a true) = r at hs1 ⊢
            cases r.1 with
            | false => rfl
            | true =>
              rw [cond_true, cond_true]
              have e1 := it (n + 59) (n + 59) (n + 57) (wk l f) a d (by omega) hw ha (x2 := bxL x0 l) (x3 := bxM m) (x4 := bxF) r.2 hs1 (opsK t.k) t.x t.y 1 t.y (.inr ⟨rfl, rfl⟩)
              refine e1.trans ?_
              rw [show ((1 : Nat) : Int) = 1 from rfl]
              generalize hr2 : stp (wk l f) (opsK t.k) 1 t.y a d r.2 = r2
              cases h : r2.1 with
              | false => rw [cond_false]; cases r2; subst h; rfl
              | true =>
                rw [cond_true, lq6__0_0e]
                rw [bif_f (by decide)]
                cases r2; subst h; rfl
def mayT (l : List TR) (root : Int) : Bool := decide (l.length ≤ 160) && (decide (0 ≤ root) && (decide (root < l.length) && (wk l 25 root.toNat 1 (List.replicate l.length false)).1))
theorem mayT_ok (root : Int) (n : Nat) (hn : 100 ≤ n) : T n 5 [.one (lC (.im x0) 6 (l.map cR)), .one (iC root)] [] = some (.one (bC (mayT l root)), []) := by
  obtain ⟨n, rfl⟩ : ∃ n', n = n' + 100 := ⟨n - 100, by omega⟩
  refine eqe_ ?_
  unfold mayT
  rw [List.length_map, natI_eq]
  by_cases h1 : l.length ≤ 160
  · rw [bif_f (decide_eq_false (by omega)), decide_eq_true h1]
    by_cases h2 : 0 ≤ root
    · rw [bif_f (decide_eq_false (by omega)), decide_eq_true h2]
      by_cases h3 : root < l.length
      · rw [bif_f (decide_eq_false (by omega)), decide_eq_true h3, lqe__0_0e]
        dsimp only [tagI]
        refine (gd_t ?_).trans ?_
        · rw [List.length_map, decide_eq_true (Nat.le_refl _), decide_eq_true (by omega), decide_eq_true (by omega)]; cases (l.length == 0) <;> rfl
        · have hw : WOk x0 l (n + 99) (wk l 25) 1 := walk_ok 25 1 (by omega) (by omega) (by omega) (n + 99) (by omega)
          have h := hw root.toNat (List.replicate l.length false) (by omega) (by simp)
          rw [show ((root.toNat : Nat) : Int) = root by omega] at h
          have e : bxM (List.replicate l.length false) = ((.own, List.replicate (l.map cR).length [D.bool false]), ()) := by
            unfold bxM; rw [List.map_replicate, List.length_map]
          rw [e] at h
          refine (congrArg (fun o => tRes rs3 o _) h).trans ?_
          rfl
      · rw [bif_t (decide_eq_true (by omega)), decide_eq_false h3]; rfl
    · rw [bif_t (decide_eq_true (by omega)), decide_eq_false h2]; rfl
  · rw [bif_t (decide_eq_true (by omega)), decide_eq_false h1]; rfl
end
end
section
open Go Go.Abs PT
def inR (t : TR) : Prop := -9223372036854775808 ≤ t.n ∧ t.n ≤ 9223372036854775807
theorem ops_cases (k : Int) : (opsK k = 0 ∧ (k = 0 ∨ k = 1 ∨ k = 2 ∨ k = 3 ∨ k = 4 ∨ k = 5)) ∨ (opsK k = 1 ∧ (k = 15 ∨ k = 16)) ∨ (opsK k = 2 ∧ (infx k = true ∨ k = 17 ∨ k = 18 ∨ k = 19)) ∨ opsK k = -1 := by
  unfold opsK
  by_cases h0 : k = 0 ∨ k = 1 ∨ k = 2 ∨ k = 3 ∨ k = 4 ∨ k = 5
  · rw [if_pos h0]; exact .inl ⟨rfl, h0⟩
  · rw [if_neg h0]
    by_cases h1 : k = 15 ∨ k = 16
    · rw [if_pos h1]; exact .inr (.inl ⟨rfl, h1⟩)
    · rw [if_neg h1]
      by_cases h2 : k = 6 ∨ k = 7 ∨ k = 8 ∨ k = 9 ∨ k = 10 ∨ k = 11 ∨ k = 12 ∨ k = 13 ∨ k = 14 ∨ k = 17 ∨ k = 18 ∨ k = 19
      · rw [if_pos h2]
        refine .inr (.inr (.inl ⟨rfl, ?_⟩))
        unfold infx
        simp only [Bool.and_eq_true, decide_eq_true_eq]
        omega
      · rw [if_neg h2]; exact .inr (.inr (.inr rfl))
theorem lf_of {t : TR} (h0 : t.k = 0 ∨ t.k = 1 ∨ t.k = 2 ∨ t.k = 3 ∨ t.k = 4 ∨ t.k = 5) (hf : fldB t = true) (hr : inR t) : lfOk t.k t.nm t.n t.tx := by
  obtain ⟨k, nm, n, tx, x, y⟩ := t
  unfold inR at hr
  simp only at h0 hr ⊢
  unfold lfOk
  rcases h0 with rfl | rfl | rfl | rfl | rfl | rfl <;> simp [fldB, Bool.cond_eq_ite] at hf
  · exact .inl ⟨rfl, hf⟩
  · exact .inr (.inl ⟨rfl, hf.1, hf.2, hr⟩)
  · exact .inr (.inr (.inl ⟨rfl, hf⟩))
  · exact .inr (.inr (.inr (.inl ⟨rfl, hf⟩)))
  · exact .inr (.inr (.inr (.inr (.inl ⟨rfl, hf⟩))))
  · exact .inr (.inr (.inr (.inr (.inr ⟨rfl, hf⟩))))
theorem fld_of {t : TR} (h0 : ¬ (t.k = 0 ∨ t.k = 1 ∨ t.k = 2 ∨ t.k = 3)) (hf : fldB t = true) : t.nm = [] ∧ t.n = 0 ∧ t.tx = [] := by
  obtain ⟨k, nm, n, tx, x, y⟩ := t
  simp only [not_or] at h0
  unfold fldB at hf
  simp only at hf h0 ⊢
  rw [bif_beq_f h0.1, bif_beq_f h0.2.1, bif_beq_f h0.2.2.1, bif_beq_f h0.2.2.2] at hf
  simp [Bool.cond_eq_ite] at hf
  exact hf
def cnt (m : List Bool) : Nat := m.count true
theorem cnt_le (m : List Bool) : cnt m ≤ m.length := List.count_le_length
theorem cnt_set : ∀ (m : List Bool) (a : Nat), a < m.length → m.getD a false = false → cnt (m.set a true) = cnt m + 1
  | [], a, h, _ => by simp at h
  | b :: m, 0, h, h' => by
    have : b = false := by simpa using h'
    subst this
    simp [cnt]
  | b :: m, a + 1, h, h' => by
    have := cnt_set m a (by simpa using h) (by simpa using h')
    simp only [cnt, List.set_cons_succ, List.count_cons] at this ⊢
    omega
theorem stp_inv {rc : WF} {ops i to : Int} {a : Nat} {d : Int} {m : List Bool} (h : (stp rc ops i to a d m).1 = true) :
    (i ≥ ops ∧ to = -1 ∧ (stp rc ops i to a d m).2 = m) ∨ (i < ops ∧ ∃ c : Nat, to = c ∧ c < a ∧ rc c (d + 1) m = (true, (stp rc ops i to a d m).2)) := by
  unfold stp at h ⊢
  by_cases h1 : i ≥ ops
  · rw [bif_t (decide_eq_true h1)] at h ⊢
    exact .inl ⟨h1, by simpa using h, rfl⟩
  · rw [bif_f (decide_eq_false h1)] at h ⊢
    by_cases h2 : to < 0
    · rw [bif_t (decide_eq_true h2)] at h; cases h
    · rw [bif_f (decide_eq_false h2)] at h ⊢
      by_cases h3 : to ≥ (a : Int)
      · rw [bif_t (decide_eq_true h3)] at h; cases h
      · rw [bif_f (decide_eq_false h3)] at h ⊢
        refine .inr ⟨by omega, to.toNat, by omega, by omega, ?_⟩
        generalize rc to.toNat (d + 1) m = r at h ⊢
        cases r
        subst h
        rfl
theorem wk_tree {l : List TR} (hr : ∀ t ∈ l, inR t) : ∀ (f a : Nat) (d : Int) (m m' : List Bool), m.length = l.length → wk l f a d m = (true, m') →
    ∃ t, okT t ∧ t.at_ (l.map cR) a ∧ (t.deep : Int) + d ≤ 25 ∧ m'.length = l.length ∧ cnt m' = cnt m + t.size
  | 0, a, d, m, m', hm, h => by cases h
  | f + 1, a, d, m, m', hm, h => by
    have ih := wk_tree hr f
    have h : wkB (wk l f) l a d m = (true, m') := h
    unfold wkB at h
    cases ht : l[a]? with
    | none => rw [ht] at h; cases h
    | some t =>
      rw [ht] at h
      dsimp only at h
      have hmem : t ∈ l := List.mem_of_getElem? ht
      have hla : a < l.length := (List.getElem?_eq_some_iff.1 ht).1
      have hrow : (l.map cR)[a]? = some (cR t) := by rw [List.getElem?_map, ht]; rfl
      cases hg : m.getD a false with
      | true => rw [hg] at h; cases h
      | false =>
        rw [hg, cond_false] at h
        by_cases g1 : d > 24
        · rw [bif_t (decide_eq_true g1)] at h; cases h
        rw [bif_f (decide_eq_false g1)] at h
        by_cases g2 : opsK t.k < 0
        · rw [bif_t (decide_eq_true g2)] at h; cases h
        rw [bif_f (decide_eq_false g2)] at h
        cases g3 : fldB t with
        | false => rw [g3] at h; cases h
        | true =>
          rw [g3, bif_f (show (!true) = false from rfl)] at h
          have hs := cnt_set m a (by omega) hg
          have hs2 : (m.set a true).length = l.length := by simpa using hm
          generalize m.set a true = m1 at h hs hs2
          cases g4 : (stp (wk l f) (opsK t.k) 0 t.x a d m1).1 with
          | false => rw [g4] at h; cases h
          | true =>
            rw [g4, cond_true] at h
            have i0 := stp_inv g4
            generalize (stp (wk l f) (opsK t.k) 0 t.x a d m1).2 = m2 at h i0
            have i1 := stp_inv (show (stp (wk l f) (opsK t.k) 1 t.y a d m2).1 = true by rw [h])
            rw [h] at i1
            rcases ops_cases t.k with ⟨hk, hk'⟩ | ⟨hk, hk'⟩ | ⟨hk, hk'⟩ | hk
            · rw [hk] at i0 i1
              rcases i0 with ⟨_, hx, rfl⟩ | ⟨h9, _⟩
              · rcases i1 with ⟨_, hy, h8⟩ | ⟨h9, _⟩
                · simp only at h8
                  subst h8
                  refine ⟨.lf t.k t.nm t.n t.tx, lf_of hk' g3 (hr t hmem), ⟨a, rfl, ?_⟩, ?_, hs2, hs⟩
                  · rw [hrow]; unfold cR; rw [hx, hy]
                  · show ((1 : Nat) : Int) + d ≤ 25; omega
                · omega
              · omega
            · rw [hk] at i0 i1
              obtain ⟨e1, e2, e3⟩ := fld_of (by omega) g3
              rcases i0 with ⟨h9, _⟩ | ⟨_, c, hx, hc, hrc⟩
              · omega
              · rcases i1 with ⟨_, hy, h8⟩ | ⟨h9, _⟩
                · simp only at h8
                  subst h8
                  obtain ⟨t1, ok1, at1, dp1, hl1, c1⟩ := ih c (d + 1) m1 m' hs2 hrc
                  refine ⟨.un t.k t1, ⟨hk', ok1⟩, ⟨a, t.x, rfl, ?_, ?_⟩, ?_, hl1, ?_⟩
                  · rw [hrow]; unfold cR; rw [hy, e1, e2, e3]
                  · rw [hx]; exact at1
                  · show ((t1.deep + 1 : Nat) : Int) + d ≤ 25; omega
                  · show cnt m' = cnt m + (t1.size + 1); omega
                · omega
            · rw [hk] at i0 i1
              have hk3 : ¬ (t.k = 0 ∨ t.k = 1 ∨ t.k = 2 ∨ t.k = 3) := by
                rcases hk' with h | h | h | h
                · unfold infx at h
                  simp only [Bool.and_eq_true, decide_eq_true_eq] at h
                  omega
                · omega
                · omega
                · omega
              obtain ⟨e1, e2, e3⟩ := fld_of hk3 g3
              rcases i0 with ⟨h9, _⟩ | ⟨_, c, hx, hc, hrc⟩
              · omega
              · rcases i1 with ⟨h9, _⟩ | ⟨_, c', hy, hc', hrc'⟩
                · omega
                · obtain ⟨t1, ok1, at1, dp1, hl1, c1⟩ := ih c (d + 1) m1 m2 hs2 hrc
                  obtain ⟨t2, ok2, at2, dp2, hl2, c2⟩ := ih c' (d + 1) m2 m' hl1 hrc'
                  refine ⟨.bi t.k t1 t2, ⟨hk', ok1, ok2⟩, ⟨a, t.x, t.y, rfl, ?_, ?_, ?_⟩, ?_, hl2, ?_⟩
                  · rw [hrow]; unfold cR; rw [e1, e2, e3]
                  · rw [hx]; exact at1
                  · rw [hy]; exact at2
                  · show ((max t1.deep t2.deep + 1 : Nat) : Int) + d ≤ 25; omega
                  · show cnt m' = cnt m + (t1.size + t2.size + 1); omega
            · omega
theorem may_tree {l : List TR} (hr : ∀ t ∈ l, inR t) {root : Int} (h : mayT l root = true) : ∃ t, okT t ∧ t.at_ (l.map cR) root ∧ t.deep ≤ 24 ∧ t.size ≤ l.length := by
  unfold mayT at h
  simp only [Bool.and_eq_true, decide_eq_true_eq] at h
  obtain ⟨h1, h2, h3, h4⟩ := h
  have h5 : wk l 25 root.toNat 1 (List.replicate l.length false) = (true, (wk l 25 root.toNat 1 (List.replicate l.length false)).2) := by
    generalize wk l 25 root.toNat 1 (List.replicate l.length false) = r at h4 ⊢
    cases r; subst h4; rfl
  obtain ⟨t, ok, at1, dp, hl, c⟩ := wk_tree hr 25 root.toNat 1 _ _ (by simp) h5
  have c0 : cnt (List.replicate l.length false) = 0 := by simp [cnt, List.count_replicate]
  have := cnt_le (wk l 25 root.toNat 1 (List.replicate l.length false)).2
  rw [show ((root.toNat : Nat) : Int) = root by omega] at at1
  exact ⟨t, ok, at1, by omega, by omega⟩
end
section
open Go Go.Abs PT
theorem drop_at {txt : BB} {i : Nat} {c : UInt8} {r : BB} (h : txt.drop i = c :: r) : txt[i]? = some c ∧ i < txt.length ∧ txt.drop (i + 1) = r := by
  have hl : i < txt.length := by
    apply Decidable.byContradiction
    intro hc
    rw [List.drop_eq_nil_of_le (by omega)] at h
    cases h
  have h2 := List.drop_eq_getElem_cons hl
  rw [h] at h2
  injection h2 with h3 h4
  exact ⟨by rw [List.getElem?_eq_getElem hl, h3], hl, h4.symm⟩
theorem drop_app {txt p r : BB} {i : Nat} (h : txt.drop i = p ++ r) : txt.drop (i + p.length) = r := by
  rw [← List.drop_drop, h, List.drop_left']
  rfl
theorem w64_two (i : Nat) (h : i < 1000000) : w64 ((i : Int) + 2) = ((i + 2 : Nat) : Int) := by
  show IntKind.wrap .i64 _ = _
  rw [wrap_i64 (by omega) (by omega)]
  simp
theorem qc_pos (c : UInt8) : 0 < (qc c).length := by
  unfold qc
  repeat' split
  all_goals simp
theorem res_u8 (z : Int) (p : RowT [.str]) {R : Type} (K : Int × RowT [.str] × Unit → Option R) : tRes rs11 (some (.one (.d (.int .u8 z)), [bx [.str] p])) K = K (z, p, ()) := by
  obtain ⟨s, u⟩ := p
  cases u
  rfl
theorem res_u8' (z : Int) {R : Type} (K : Int × Unit → Option R) : tRes rs12 (some (.one (.d (.int .u8 z)), [])) K = K (z, ()) := rfl
theorem behind_ok (n : Nat) (hn : 1 ≤ n) {txt : BB} {i : Nat} {c : UInt8} (h : txt[i]? = some c) : T n 33 [.one (iC (i : Int)), pE] [bx [.str] (txt, ())] = some (.one (.d (.int .u8 (natI c.toNat))), [bx [.str] (txt, ())]) := by
  obtain ⟨m, rfl⟩ := Nat.exists_eq_add_of_le' hn
  have hl := (List.getElem?_eq_some_iff.1 h).1
  refine eqa_ ?_
  rw [bif_t (decide_eq_true (show (i : Int) < natI (List.length txt) by rw [natI_eq]; omega)), qO_asI _ rfl]
  exact qO _ h
theorem nb34 (c : UInt8) : (natI c.toNat == (34 : Int)) = decide (c.toNat = 34) := natI_beq c 34
theorem nb92 (c : UInt8) : (natI c.toNat == (92 : Int)) = decide (c.toNat = 92) := natI_beq c 92
def hexK (c : UInt8) : Bool := isDig c || (decide (97 ≤ c.toNat) && decide (c.toNat ≤ 102))
def worK (c : UInt8) : Int := bif isDig c then w8 (natI c.toNat - 48) else w8 (w8 (natI c.toNat - 97) + 10)
theorem hex' (n : Nat) (hn : 2 ≤ n) (c : UInt8) : T n 34 [.one (.d (.int .u8 (natI c.toNat)))] [] = some (.one (bC (hexK c)), []) := by
  obtain ⟨m, rfl⟩ := Nat.exists_eq_add_of_le' hn
  refine equ_ ?_
  unfold hexK
  rw [ldigit_ok (m + 1) (by omega), res_b]
  dsimp only
  cases isDig c with
  | true => rfl
  | false =>
    rw [cond_false]
    refine (rng_ok c.toNat 97 102).trans ?_
    rw [Bool.false_or]
    refine congrArg (fun b => (some (V.one (bC b), []) : OR)) ?_
    rw [natI_eq]; congr 1 <;> exact decide_eq_decide.2 (by omega)
theorem worth' (n : Nat) (hn : 2 ≤ n) (c : UInt8) : T n 35 [.one (.d (.int .u8 (natI c.toNat)))] [] = some (.one (.d (.int .u8 (worK c))), []) := by
  obtain ⟨m, rfl⟩ := Nat.exists_eq_add_of_le' hn
  refine eqv_ ?_
  unfold worK
  rw [ldigit_ok (m + 1) (by omega), res_b]
  dsimp only
  cases isDig c with
  | true => rfl
  | false => rfl
def hexD (n : Nat) : Bool := hexK (hexd (n / 16)) && hexK (hexd (n % 16)) && decide (w8 (w8 ((16 : Int) * worK (hexd (n / 16))) + worK (hexd (n % 16))) = natI n)
theorem hexD_all : (List.range 256).all hexD = true := by kernel_rfl
theorem hexB_all (c : UInt8) : hexK (hexd (c.toNat / 16)) = true ∧ hexK (hexd (c.toNat % 16)) = true ∧ w8 (w8 ((16 : Int) * worK (hexd (c.toNat / 16))) + worK (hexd (c.toNat % 16))) = natI c.toNat := by
  have h := all_lt hexD_all c.toNat c.toNat_lt
  unfold hexD at h
  simp only [Bool.and_eq_true, decide_eq_true_eq] at h
  exact ⟨h.1.1, h.1.2, h.2⟩
theorem hex1 (n : Nat) (hn : 5 ≤ n) (c : UInt8) : T n 34 [.one (.d (.int .u8 (natI (hexd (c.toNat / 16)).toNat)))] [] = some (.one (bC true), []) := by rw [hex' n (by omega), (hexB_all c).1]
theorem hex2 (n : Nat) (hn : 5 ≤ n) (c : UInt8) : T n 34 [.one (.d (.int .u8 (natI (hexd (c.toNat % 16)).toNat)))] [] = some (.one (bC true), []) := by rw [hex' n (by omega), (hexB_all c).2.1]
theorem worth1 (n : Nat) (hn : 5 ≤ n) (c : UInt8) : T n 35 [.one (.d (.int .u8 (natI (hexd (c.toNat / 16)).toNat)))] [] = some (.one (.d (.int .u8 (worK (hexd (c.toNat / 16))))), []) := worth' n (by omega) _
theorem worth2 (n : Nat) (hn : 5 ≤ n) (c : UInt8) : T n 35 [.one (.d (.int .u8 (natI (hexd (c.toNat % 16)).toNat)))] [] = some (.one (.d (.int .u8 (worK (hexd (c.toNat % 16))))), []) := worth' n (by omega) _
theorem worth_sum (c : UInt8) : w8 (w8 ((16 : Int) * worK (hexd (c.toNat / 16))) + worK (hexd (c.toNat % 16))) = natI c.toNat := (hexB_all c).2.2
theorem qstep0 (n q : Nat) (hn : 5 ≤ n) (txt : BB) (ht : txt.length < 100000) (k i : Nat) (c : UInt8) (r : BB) (h : txt.drop i = qc c ++ r) :
    lq1__0_0 (T n) (q + 1) (k + 1) (i : Int) (txt, ()) true [] = lq1__0_1 (T n) (q + 1) k ((i + (qc c).length : Nat) : Int) (txt, ()) (D.strB [c]) := by
  have fin : ∀ (j : Nat) (R : RR), j < 1000000 → R = D.strB [c] → lq1__2_0 (T n) (q + 1) k (q + 1) (j : Int) (txt, ()) R = lq1__0_1 (T n) (q + 1) k ((j + 1 : Nat) : Int) (txt, ()) (D.strB [c]) := by
    intro j R hj hR
    rw [lq1__2_0e]
    rw [w64_succ j hj, hR]
  have hlen : i ≤ txt.length := by
    apply Decidable.byContradiction; intro hc; rw [List.drop_eq_nil_of_le (by omega)] at h
    have := congrArg List.length h; rw [List.length_append] at this; have := qc_pos c; simp at *; omega
  rw [lq1__0_0e]
  unfold qc at h ⊢
  by_cases h1 : c.toNat = 34 ∨ c.toNat = 92
  · rw [if_pos h1] at h ⊢
    obtain ⟨g1, g2, g3⟩ := drop_at h
    rw [bif_t (decide_eq_true (show (i : Int) < natI (List.length txt) by rw [natI_eq]; omega)), qO_asI _ rfl]
    refine (qO _ g1).trans ?_
    rw [bif_f (by decide), bif_t (by decide), w64_succ i (by omega)]
    obtain ⟨g4, g5, g6⟩ := drop_at g3
    rw [c33, behind_ok n (by omega) g4, res_u8]
    dsimp only
    rcases h1 with h1 | h1
    · rw [bif_t ((nb34 c).trans (decide_eq_true h1)), qO_asI _ rfl]
      refine (qO _ g4).trans ?_
      refine (gd_t rfl).trans ?_
      exact fin (i + 1) _ (by omega) rfl
    · rw [bif_f ((nb34 c).trans (decide_eq_false (by omega))), bif_t ((nb92 c).trans (decide_eq_true h1)), qO_asI _ rfl]
      refine (qO _ g4).trans ?_
      refine (gd_t rfl).trans ?_
      exact fin (i + 1) _ (by omega) rfl
  · rw [if_neg h1] at h ⊢
    by_cases h3 : c.toNat = 10
    · rw [if_pos h3] at h ⊢
      have hc : c = 10 := UInt8.toNat_inj.1 h3
      subst hc
      obtain ⟨g1, g2, g3⟩ := drop_at h
      rw [bif_t (decide_eq_true (show (i : Int) < natI (List.length txt) by rw [natI_eq]; omega)), qO_asI _ rfl]
      refine (qO _ g1).trans ?_
      rw [bif_f (by decide), bif_t (by decide), w64_succ i (by omega)]
      obtain ⟨g4, g5, g6⟩ := drop_at g3
      rw [c33, behind_ok n (by omega) g4, res_u8]
      dsimp only
      rw [bif_f (by decide), bif_f (by decide), bif_t (by decide)]
      refine (gd_t rfl).trans ?_
      exact fin (i + 1) _ (by omega) rfl
    · rw [if_neg h3] at h ⊢
      by_cases h4 : c.toNat < 32 ∨ 126 < c.toNat
      · rw [if_pos h4] at h ⊢
        have hb := hexB_all c
        obtain ⟨g1, g2, g3⟩ := drop_at h
        rw [bif_t (decide_eq_true (show (i : Int) < natI (List.length txt) by rw [natI_eq]; omega)), qO_asI _ rfl]
        refine (qO _ g1).trans ?_
        rw [bif_f (by decide), bif_t (by decide), w64_succ i (by omega)]
        obtain ⟨g4, g5, g6⟩ := drop_at g3
        obtain ⟨g7, g8, g9⟩ := drop_at g6
        obtain ⟨g10, g11, g12⟩ := drop_at g9
        rw [c33, behind_ok n (by omega) g4, res_u8]
        dsimp only
        rw [bif_f (by decide), bif_f (by decide), bif_f (by decide), bif_t (by decide), w64_succ (i + 1) (by omega), c33, behind_ok n (by omega) g7, res_u8]
        dsimp only
        rw [hex1 n hn c, res_b]
        dsimp only
        rw [bif_f (show (!true) = false from rfl), w64_two (i + 1) (by omega), c33, behind_ok n (by omega) g10, res_u8]
        dsimp only
        rw [hex2 n hn c, res_b]
        dsimp only
        rw [bif_f (show (!true) = false from rfl), lqa__0e]
        rw [w64_succ (i + 1) (by omega), w64_two (i + 1) (by omega), qO_asI _ rfl]
        refine (qO _ g7).trans ?_
        rw [worth1 n hn c, res_u8']
        dsimp only
        rw [qO_asI _ rfl]
        refine (qO _ g10).trans ?_
        rw [worth2 n hn c, res_u8']
        dsimp only
        refine (gd_t rfl).trans ?_
        exact fin (i + 1 + 2) _ (by omega) (by rw [worth_sum c]; rfl)
      · rw [if_neg h4] at h ⊢
        obtain ⟨g1, g2, g3⟩ := drop_at h
        rw [bif_t (decide_eq_true (show (i : Int) < natI (List.length txt) by rw [natI_eq]; omega)), qO_asI _ rfl]
        refine (qO _ g1).trans ?_
        rw [bif_f ((nb34 c).trans (decide_eq_false (by omega))), bif_f ((nb92 c).trans (decide_eq_false (by omega))), bif_f (decide_eq_false (show ¬ natI c.toNat < (32 : Int) by rw [natI_eq]; omega)), bif_f (decide_eq_false (show ¬ natI c.toNat > (126 : Int) by rw [natI_eq]; omega))]
        refine (gd_t rfl).trans ?_
        exact fin i _ (by omega) rfl
theorem qstep1 (n q : Nat) (hn : 5 ≤ n) (txt : BB) (ht : txt.length < 100000) (k i : Nat) (done : BB) (hdn : done ≠ []) (hdl : done.length < 100000) (c : UInt8) (r : BB) (h : txt.drop i = qc c ++ r) :
    lq1__0_1 (T n) (q + 1) (k + 1) (i : Int) (txt, ()) (D.strB done) = lq1__0_1 (T n) (q + 1) k ((i + (qc c).length : Nat) : Int) (txt, ()) (D.strB (done ++ [c])) := by
  have fin : ∀ (j : Nat) (R : RR), j < 1000000 → R = D.strB (done ++ [c]) → lq1__2_0 (T n) (q + 1) k (q + 1) (j : Int) (txt, ()) R = lq1__0_1 (T n) (q + 1) k ((j + 1 : Nat) : Int) (txt, ()) (D.strB (done ++ [c])) := by
    intro j R hj hR
    rw [lq1__2_0e]
    rw [w64_succ j hj, hR]
  have hlen : i ≤ txt.length := by
    apply Decidable.byContradiction; intro hc; rw [List.drop_eq_nil_of_le (by omega)] at h
    have := congrArg List.length h; rw [List.length_append] at this; have := qc_pos c; simp at *; omega
  rw [lq1__0_1e]
  unfold qc at h ⊢
  by_cases h1 : c.toNat = 34 ∨ c.toNat = 92
  · rw [if_pos h1] at h ⊢
    obtain ⟨g1, g2, g3⟩ := drop_at h
    rw [bif_t (decide_eq_true (show (i : Int) < natI (List.length txt) by rw [natI_eq]; omega)), qO_asI _ rfl]
    refine (qO _ g1).trans ?_
    rw [bif_f (by decide), bif_t (by decide), w64_succ i (by omega)]
    obtain ⟨g4, g5, g6⟩ := drop_at g3
    rw [c33, behind_ok n (by omega) g4, res_u8]
    dsimp only
    rcases h1 with h1 | h1
    · rw [bif_t ((nb34 c).trans (decide_eq_true h1)), qO_asI _ rfl]
      refine (qO _ g4).trans ?_
      refine (gd_t (qg done 1 (by omega))).trans ?_
      exact fin (i + 1) _ (by omega) (by rw [strB_app]; rfl)
    · rw [bif_f ((nb34 c).trans (decide_eq_false (by omega))), bif_t ((nb92 c).trans (decide_eq_true h1)), qO_asI _ rfl]
      refine (qO _ g4).trans ?_
      refine (gd_t (qg done 1 (by omega))).trans ?_
      exact fin (i + 1) _ (by omega) (by rw [strB_app]; rfl)
  · rw [if_neg h1] at h ⊢
    by_cases h3 : c.toNat = 10
    · rw [if_pos h3] at h ⊢
      have hc : c = 10 := UInt8.toNat_inj.1 h3
      subst hc
      obtain ⟨g1, g2, g3⟩ := drop_at h
      rw [bif_t (decide_eq_true (show (i : Int) < natI (List.length txt) by rw [natI_eq]; omega)), qO_asI _ rfl]
      refine (qO _ g1).trans ?_
      rw [bif_f (by decide), bif_t (by decide), w64_succ i (by omega)]
      obtain ⟨g4, g5, g6⟩ := drop_at g3
      rw [c33, behind_ok n (by omega) g4, res_u8]
      dsimp only
      rw [bif_f (by decide), bif_f (by decide), bif_t (by decide)]
      refine (gd_t (qg done 1 (by omega))).trans ?_
      exact fin (i + 1) _ (by omega) (by rw [strB_app]; rfl)
    · rw [if_neg h3] at h ⊢
      by_cases h4 : c.toNat < 32 ∨ 126 < c.toNat
      · rw [if_pos h4] at h ⊢
        have hb := hexB_all c
        obtain ⟨g1, g2, g3⟩ := drop_at h
        rw [bif_t (decide_eq_true (show (i : Int) < natI (List.length txt) by rw [natI_eq]; omega)), qO_asI _ rfl]
        refine (qO _ g1).trans ?_
        rw [bif_f (by decide), bif_t (by decide), w64_succ i (by omega)]
        obtain ⟨g4, g5, g6⟩ := drop_at g3
        obtain ⟨g7, g8, g9⟩ := drop_at g6
        obtain ⟨g10, g11, g12⟩ := drop_at g9
        rw [c33, behind_ok n (by omega) g4, res_u8]
        dsimp only
        rw [bif_f (by decide), bif_f (by decide), bif_f (by decide), bif_t (by decide), w64_succ (i + 1) (by omega), c33, behind_ok n (by omega) g7, res_u8]
        dsimp only
        rw [hex1 n hn c, res_b]
        dsimp only
        rw [bif_f (show (!true) = false from rfl), w64_two (i + 1) (by omega), c33, behind_ok n (by omega) g10, res_u8]
        dsimp only
        rw [hex2 n hn c, res_b]
        dsimp only
        rw [bif_f (show (!true) = false from rfl), lqa__1e]
        rw [w64_succ (i + 1) (by omega), w64_two (i + 1) (by omega), qO_asI _ rfl]
        refine (qO _ g7).trans ?_
        rw [worth1 n hn c, res_u8']
        dsimp only
        rw [qO_asI _ rfl]
        refine (qO _ g10).trans ?_
        rw [worth2 n hn c, res_u8']
        dsimp only
        refine (gd_t (qg done 1 (by omega))).trans ?_
        exact fin (i + 1 + 2) _ (by omega) (by rw [worth_sum c]; rw [strB_app]; rfl)
      · rw [if_neg h4] at h ⊢
        obtain ⟨g1, g2, g3⟩ := drop_at h
        rw [bif_t (decide_eq_true (show (i : Int) < natI (List.length txt) by rw [natI_eq]; omega)), qO_asI _ rfl]
        refine (qO _ g1).trans ?_
        rw [bif_f ((nb34 c).trans (decide_eq_false (by omega))), bif_f ((nb92 c).trans (decide_eq_false (by omega))), bif_f (decide_eq_false (show ¬ natI c.toNat < (32 : Int) by rw [natI_eq]; omega)), bif_f (decide_eq_false (show ¬ natI c.toNat > (126 : Int) by rw [natI_eq]; omega))]
        refine (gd_t (qg done 1 (by omega))).trans ?_
        exact fin i _ (by omega) (by rw [strB_app]; rfl)
theorem plain_strB (b : BB) : plainRs (whole (D.strB b)) = D.strB b := by
  unfold whole
  rw [List.drop_zero, List.take_length]
  induction b with
  | nil => rfl
  | cons c r ih => exact congrArg (fun x => [D.int .u8 (c.toNat : Int)] :: x) ih
theorem qend0 (n q : Nat) (txt : BB) (ht : txt.length < 100000) (k i : Nat) (r : BB) (h : txt.drop i = 34 :: r) :
    lq1__0_0 (T n) (q + 1) (k + 1) (i : Int) (txt, ()) true [] = some (.tup [.one (sC []), .one (iC ((i + 1 : Nat) : Int)), .one (bC true)], []) := by
  obtain ⟨g1, g2, g3⟩ := drop_at h
  rw [lq1__0_0e]
  rw [bif_t (decide_eq_true (show (i : Int) < natI (List.length txt) by rw [natI_eq]; omega)), qO_asI _ rfl]
  refine (qO _ g1).trans ?_
  rw [bif_t (by decide), w64_succ i (by omega)]
  rfl
theorem qend1 (n q : Nat) (txt : BB) (ht : txt.length < 100000) (k i : Nat) (done : BB) (r : BB) (h : txt.drop i = 34 :: r) :
    lq1__0_1 (T n) (q + 1) (k + 1) (i : Int) (txt, ()) (D.strB done) = some (.tup [.one (sC done), .one (iC ((i + 1 : Nat) : Int)), .one (bC true)], []) := by
  obtain ⟨g1, g2, g3⟩ := drop_at h
  rw [lq1__0_1e]
  rw [bif_t (decide_eq_true (show (i : Int) < natI (List.length txt) by rw [natI_eq]; omega)), qO_asI _ rfl]
  refine (qO _ g1).trans ?_
  rw [bif_t (by decide), w64_succ i (by omega), plain_strB]
  refine (gd_t (decide_eq_true (by omega))).trans ?_
  exact qO _ (toBytes_strB done)
theorem quote_loop (n q : Nat) (hn : 5 ≤ n) (txt : BB) (ht : txt.length < 100000) (r : BB) : ∀ (s : BB) (k i : Nat) (done : BB), done ≠ [] → done.length + s.length < 100000 → s.length < k → txt.drop i = s.flatMap qc ++ 34 :: r →
    lq1__0_1 (T n) (q + 1) k (i : Int) (txt, ()) (D.strB done) = some (.tup [.one (sC (done ++ s)), .one (iC ((i + (s.flatMap qc).length + 1 : Nat) : Int)), .one (bC true)], [])
  | [], k, i, done, hd, hl, hk, h => by
    obtain ⟨k, rfl⟩ : ∃ m, k = m + 1 := ⟨k - 1, by simp at hk; omega⟩
    rw [qend1 n q txt ht k i done r h]
    simp
  | c :: s, k, i, done, hd, hl, hk, h => by
    obtain ⟨k, rfl⟩ : ∃ m, k = m + 1 := ⟨k - 1, by simp at hk; omega⟩
    rw [List.flatMap_cons, List.append_assoc] at h
    simp only [List.length_cons] at hl hk
    rw [qstep1 n q hn txt ht k i done hd (by omega) c _ h]
    rw [quote_loop n q hn txt ht r s k _ (done ++ [c]) (by simp) (by simp; omega) (by omega) (drop_app h)]
    rw [List.flatMap_cons, List.length_append, List.append_assoc]
    rw [show i + (qc c).length + (s.flatMap qc).length + 1 = i + ((qc c).length + (s.flatMap qc).length) + 1 by omega]
    rfl
theorem quote_ok (n : Nat) (txt : BB) (ht : txt.length < 100000) (r s : BB) (hs : s.length + 10 < n) (hsl : s.length < 90000) (i : Nat) (h : txt.drop i = quotedB s ++ r) :
    T n 20 [.one (sC txt), .one (iC (i : Int))] [] = some (.tup [.one (sC s), .one (iC ((i + (quotedB s).length : Nat) : Int)), .one (bC true)], []) := by
  obtain ⟨m, rfl⟩ : ∃ m, n = m + 2 := ⟨n - 2, by omega⟩
  unfold quotedB at h
  rw [List.cons_append, List.append_assoc] at h
  obtain ⟨g1, g2, g3⟩ := drop_at h
  refine eq1_ ?_
  rw [w64_succ i (by omega)]
  have hq : (quotedB s).length = (s.flatMap qc).length + 2 := by simp [quotedB]
  rw [hq]
  cases s with
  | nil => exact qend0 (m + 1) m txt ht m (i + 1) r g3
  | cons c s =>
    rw [List.flatMap_cons, List.append_assoc] at g3
    simp only [List.length_cons] at hs hsl
    rw [qstep0 (m + 1) m (by omega) txt ht m (i + 1) c _ g3]
    rw [quote_loop (m + 1) m (by omega) txt ht r s m _ [c] (by simp) (by simp; omega) (by omega) (drop_app g3)]
    rw [List.flatMap_cons, List.length_append]
    rw [show i + 1 + (qc c).length + (s.flatMap qc).length + 1 = i + ((qc c).length + (s.flatMap qc).length + 2) by omega]
    rfl
end
section
open Go Go.Abs PT
theorem ld' (n : Nat) (hn : 2 ≤ n) (c : UInt8) : T n 18 [.one (.d (.int .u8 (natI c.toNat)))] [] = some (.one (bC (isLD c)), []) := by
  obtain ⟨m, rfl⟩ := Nat.exists_eq_add_of_le' hn
  refine eq3_ ?_
  unfold isLD
  rw [lletter_ok (m + 1) (by omega), res_b]
  dsimp only
  cases isLet c with
  | true => rfl
  | false => rw [cond_false, ldigit_ok (m + 1) (by omega), res_b]; rfl
theorem runLD_loop (n q : Nat) (hn : 2 ≤ n) (s : BB) (hs : s.length < 100000) : ∀ (k i : Nat), i ≤ s.length → s.length - i < k →
    lqc__0_0 (T n) q k s (i : Int) = some (.one (iC ((i + ((s.drop i).takeWhile isLD).length : Nat) : Int)), [])
  | 0, i, hi, hk => by omega
  | k + 1, i, hi, hk => by
    rw [lqc__0_0e]
    by_cases h : i < s.length
    · have hc : s[i]? = some s[i] := List.getElem?_eq_getElem h
      have hd : s.drop i = s[i] :: s.drop (i + 1) := List.drop_eq_getElem_cons h
      have ih := runLD_loop n q hn s hs k (i + 1) (by omega) (by omega)
      rw [hd, List.takeWhile_cons]
      generalize s[i] = c at hc hd
      rw [bif_t (decide_eq_true (show (i : Int) < natI s.length by rw [natI_eq]; omega)), qO_asI _ rfl, qO _ hc, ld' n hn, res_b]
      dsimp only
      cases isLD c with
      | true =>
        rw [cond_true, w64_succ i (by omega), ih]
        simp only [if_true, List.length_cons]
        rw [show i + 1 + ((s.drop (i + 1)).takeWhile isLD).length = i + (((s.drop (i + 1)).takeWhile isLD).length + 1) by omega]
      | false => rfl
    · rw [bif_f (decide_eq_false (show ¬ (i : Int) < natI s.length by rw [natI_eq]; omega)), List.drop_eq_nil_of_le (by omega)]
      rfl
theorem runLD (n : Nat) (s : BB) (hs : s.length < 100000) (hn : s.length + 5 ≤ n) (i : Nat) (hi : i ≤ s.length) :
    T n 15 [.one (sC s), .one (iC (i : Int)), .one (.fn 18 [] [])] [] = some (.one (iC ((i + ((s.drop i).takeWhile isLD).length : Nat) : Int)), []) := by
  obtain ⟨m, rfl⟩ : ∃ m, n = m + 1 := ⟨n - 1, by omega⟩
  rw [eqc_]
  exact runLD_loop m m (by omega) s hs m i hi (by omega)
theorem runDig_loop (n q : Nat) (hn : 2 ≤ n) (s : BB) (hs : s.length < 100000) : ∀ (k i : Nat), i ≤ s.length → s.length - i < k →
    lqd__0_0 (T n) q k s (i : Int) = some (.one (iC ((i + ((s.drop i).takeWhile isDig).length : Nat) : Int)), [])
  | 0, i, hi, hk => by omega
  | k + 1, i, hi, hk => by
    rw [lqd__0_0e]
    by_cases h : i < s.length
    · have hc : s[i]? = some s[i] := List.getElem?_eq_getElem h
      have hd : s.drop i = s[i] :: s.drop (i + 1) := List.drop_eq_getElem_cons h
      have ih := runDig_loop n q hn s hs k (i + 1) (by omega) (by omega)
      rw [hd, List.takeWhile_cons]
      generalize s[i] = c at hc hd
      rw [bif_t (decide_eq_true (show (i : Int) < natI s.length by rw [natI_eq]; omega)), qO_asI _ rfl, qO _ hc, ldigit_ok n (by omega), res_b]
      dsimp only
      cases isDig c with
      | true =>
        rw [cond_true, w64_succ i (by omega), ih]
        simp only [if_true, List.length_cons]
        rw [show i + 1 + ((s.drop (i + 1)).takeWhile isDig).length = i + (((s.drop (i + 1)).takeWhile isDig).length + 1) by omega]
      | false => rfl
    · rw [bif_f (decide_eq_false (show ¬ (i : Int) < natI s.length by rw [natI_eq]; omega)), List.drop_eq_nil_of_le (by omega)]
      rfl
theorem runDig (n : Nat) (s : BB) (hs : s.length < 100000) (hn : s.length + 5 ≤ n) (i : Nat) (hi : i ≤ s.length) :
    T n 15 [.one (sC s), .one (iC (i : Int)), .one (.fn 13 [] [])] [] = some (.one (iC ((i + ((s.drop i).takeWhile isDig).length : Nat) : Int)), []) := by
  obtain ⟨m, rfl⟩ : ∃ m, n = m + 1 := ⟨n - 1, by omega⟩
  rw [eqd_]
  exact runDig_loop m m (by omega) s hs m i hi (by omega)
theorem tw_all {f : UInt8 → Bool} {d r : BB} (hd : ∀ c ∈ d, f c = true) (hr : r.takeWhile f = []) : (d ++ r).takeWhile f = d := by
  rw [List.takeWhile_append_of_pos hd, hr, List.append_nil]
def numOk (raw d : BB) : Prop := (raw = d ∨ raw = 45 :: d) ∧ d ≠ [] ∧ (∀ c ∈ d, isDig c = true) ∧ (d.length = 1 ∨ ∀ c r, d = c :: r → c.toNat ≠ 48) ∧ raw ≠ [45, 48] ∧ raw.length ≤ 100 ∧ ∃ z, Lib.parseIntB 64 raw = .ok z
theorem dig_ne {c : UInt8} (h : isDig c = true) {k : Nat} (hk : k < 48 ∨ 57 < k) : c.toNat ≠ k := by
  unfold isDig at h
  simp only [Bool.and_eq_true, decide_eq_true_eq] at h
  omega
theorem nb48 (c : UInt8) : (natI c.toNat == (48 : Int)) = decide (c.toNat = 48) := natI_beq c 48
theorem nb45 (c : UInt8) : (natI c.toNat == (45 : Int)) = decide (c.toNat = 45) := natI_beq c 45
theorem number' (n : Nat) (hn : 150 ≤ n) {raw d : BB} (h : numOk raw d) : T n 19 [.one (sC raw)] [] = some (.one (bC true), []) := by
  obtain ⟨m, rfl⟩ : ∃ m, n = m + 150 := ⟨n - 150, by omega⟩
  obtain ⟨hr, hd, hdig, hz, h0, hl, z, hp⟩ := h
  refine eq8_ ?_
  have hdl : d.length ≤ 100 := by
    rcases hr with h | h
    · rw [h] at hl; exact hl
    · rw [h, List.length_cons] at hl; omega
  have fin : lq8__1_0 (T (m + 149)) (m + 149) (m + 149) raw d = some (.one (bC true), []) := by
    rw [lq8__1_0e]
    have hne : (d == []) = false := by cases d with | nil => exact absurd rfl hd | cons => rfl
    rw [bif_f hne, show (0 : Int) = ((0 : Nat) : Int) from rfl, c15x2, runDig (m + 149) d (by omega) (by omega) 0 (by omega), res_i]
    dsimp only
    have ht : d.takeWhile isDig = d := by have := tw_all (r := []) hdig rfl; rwa [List.append_nil] at this
    rw [List.drop_zero, ht, Nat.zero_add, natI_eq, bif_f (by simp)]
    have e0 : (raw == [45, 48]) = false := by
      cases hq : raw == [45, 48] with
      | false => rfl
      | true => exact absurd (eq_of_beq hq) h0
    have e1 : lq8__0_0 (T (m + 149)) (m + 149) (m + 149) raw = some (.one (bC true), []) := by
      rw [lq8__0_0e]
      rw [c32, parseInt' (m + 149) (by omega) raw (by omega) hp, res_err]
      rfl
    cases hdc : d with
    | nil => exact absurd hdc hd
    | cons c r =>
      refine (qO (b := c) _ rfl).trans ?_
      by_cases h48 : c.toNat = 48
      · have h1 : d.length = 1 := by
          rcases hz with h | h
          · exact h
          · exact absurd h48 (h c r hdc)
        rw [hdc] at h1
        rw [bif_t ((nb48 c).trans (decide_eq_true h48)), bif_f (decide_eq_false (show ¬ (((c :: r).length : Int) > 1) by rw [h1]; decide)), bif_f e0]
        exact e1
      · rw [bif_f ((nb48 c).trans (decide_eq_false h48)), bif_f e0]
        exact e1
  rcases hr with rfl | rfl
  · cases hdc : raw with
    | nil => exact absurd hdc hd
    | cons c r =>
      rw [bif_t (show (!(c :: r == [])) = true from rfl)]
      refine (qO (b := c) _ rfl).trans ?_
      have hc := hdig c (by rw [hdc]; simp)
      rw [bif_f ((nb45 c).trans (decide_eq_false (dig_ne hc (by omega))))]
      rw [← hdc]
      exact fin
  · rw [bif_t (show (!(45 :: d == [])) = true from rfl)]
    refine (qO (b := (45 : UInt8)) _ rfl).trans ?_
    rw [bif_t (by decide)]
    refine (gd_t ?_).trans ?_
    · simp
    · have e : List.take ((45 :: d).length - Int.toNat (1 : Int)) (List.drop 1 (45 :: d)) = d := by
        show List.take ((45 :: d).length - 1) d = d
        simp
      rw [e]
      exact fin
def closedB (k : Int) (s : BB) : Bool := bif k == 0 then !(kwB s) else bif k == 1 then true else bif k == 2 then true else s == [41]
theorem closed' (n : Nat) (hn : 3 ≤ n) (k : Int) (s : BB) (a : Int) : T n 14 [.agg [iC k, sC s, iC a]] [] = some (.one (bC (closedB k s)), []) := by
  obtain ⟨m, rfl⟩ : ∃ m, n = m + 3 := ⟨n - 3, by omega⟩
  refine eqn_ ?_
  unfold closedB
  rw [c31, keyword_ok (m + 2) (by omega), res_b]
  exact bif_ans rfl (bif_ans rfl (bif_ans rfl rfl))
theorem cut_ok {txt raw r : BB} {i : Nat} (h : txt.drop i = raw ++ r) (hr : raw ≠ []) : i + raw.length ≤ txt.length ∧ List.take (i + raw.length - i) (List.drop i txt) = raw := by
  have h1 := congrArg List.length h
  rw [List.length_drop, List.length_append] at h1
  have h2 : 0 < raw.length := by cases raw with | nil => exact absurd rfl hr | cons => simp
  refine ⟨by omega, ?_⟩
  rw [h, Nat.add_sub_cancel_left, List.take_left']
  rfl
theorem two_ne {txt : BB} {i : Nat} {c : UInt8} {r s : BB} (h : txt.drop i = c :: r) (hs : ∀ d, s ≠ c :: d) (m : Nat) : (List.take (m + 1) (List.drop i txt) == s) = false := by
  rw [h, List.take_succ_cons]
  cases hq : (c :: List.take m r) == s with
  | false => rfl
  | true => exact absurd (eq_of_beq hq).symm (hs _)
def sg1 : List UInt8 := [40, 41, 123, 125, 44, 59, 60, 43, 42, 47]
theorem cut1 {txt : BB} {i : Nat} {c : UInt8} {r : BB} (h : txt.drop i = c :: r) (hl : txt.length < 100000) :
    (qOpt (asI (i : Int)) fun o => qOpt (asI (w64 ((i : Int) + 1))) fun o' => gd (decide (o ≤ o') && decide (o' ≤ txt.length)) (some (V.one (sC (List.take (o' - o) (List.drop o txt))), ([] : List (List C))))) = some (.one (sC [c]), []) := by
  obtain ⟨g1, g2, g3⟩ := drop_at h
  rw [w64_succ i (by omega), qO_asI _ rfl, qO_asI _ rfl]
  refine (gd_t (by rw [decide_eq_true (by omega), decide_eq_true (by omega)]; rfl)).trans ?_
  rw [h, Nat.add_sub_cancel_left]
  rfl
theorem sign1 (n : Nat) (hn : 2 ≤ n) {txt : BB} (hl : txt.length < 100000) {i : Nat} {c : UInt8} {r : BB} (h : txt.drop i = c :: r) (hc : c ∈ sg1 ∨ (c = 45 ∧ ∃ r', r = 32 :: r')) :
    T n 21 [.one (sC txt), .one (iC (i : Int))] [] = some (.one (sC [c]), []) := by
  obtain ⟨m, rfl⟩ := Nat.exists_eq_add_of_le' hn
  obtain ⟨g1, g2, g3⟩ := drop_at h
  refine eqb_ ?_
  have fin : lqb__1_0 (T (m + 1)) (m + 1) (m + 1) txt (i : Int) = some (.one (sC [c]), []) := by
    rw [lqb__1_0e]
    rw [qO_asI _ rfl]
    refine (qO _ g1).trans ?_
    have k := cut1 h hl
    rcases hc with hc | ⟨rfl, _⟩
    · simp only [sg1, List.mem_cons, List.not_mem_nil, or_false] at hc
      rcases hc with rfl | rfl | rfl | rfl | rfl | rfl | rfl | rfl | rfl | rfl <;> exact k
    · exact k
  rw [w64_succ i (by omega), natI_eq]
  by_cases hi : i + 1 < txt.length
  · rw [bif_t (decide_eq_true (by omega)), qO_asI _ rfl, qO_asI _ (w64_two i (by omega))]
    refine (gd_t (by rw [decide_eq_true (by omega), decide_eq_true (by omega)]; rfl)).trans ?_
    have e1 : (List.take (i + 2 - i) (List.drop i txt) == [61, 61]) = false := by
      rw [Nat.add_sub_cancel_left]
      refine two_ne h ?_ 1
      rintro d h; injection h with h _; subst h
      rcases hc with hc | ⟨hc, _⟩
      · revert hc; decide
      · cases hc
    have e2 : (List.take (i + 2 - i) (List.drop i txt) == [45, 62]) = false := by
      rw [Nat.add_sub_cancel_left, h]
      rcases hc with hc | ⟨rfl, r', rfl⟩
      · cases hq : List.take 2 (c :: r) == [45, 62] with
        | false => rfl
        | true =>
          have := eq_of_beq hq
          rw [List.take_succ_cons] at this
          injection this with h _
          subst h
          revert hc; decide
      · rfl
    rw [bif_f e1, bif_f e2]
    exact fin
  · rw [bif_f (decide_eq_false (by omega))]
    exact fin
theorem sign2 (n : Nat) (hn : 2 ≤ n) {txt : BB} (hl : txt.length < 100000) {i : Nat} {r : BB} (h : txt.drop i = 61 :: 61 :: r) :
    T n 21 [.one (sC txt), .one (iC (i : Int))] [] = some (.one (sC [61, 61]), []) := by
  obtain ⟨m, rfl⟩ := Nat.exists_eq_add_of_le' hn
  obtain ⟨g1, g2, g3⟩ := drop_at h
  obtain ⟨g4, g5, g6⟩ := drop_at g3
  refine eqb_ ?_
  rw [w64_succ i (by omega), natI_eq, bif_t (decide_eq_true (by omega)), qO_asI _ rfl, qO_asI _ (w64_two i (by omega))]
  refine (gd_t (by rw [decide_eq_true (by omega), decide_eq_true (by omega)]; rfl)).trans ?_
  have e : List.take (i + 2 - i) (List.drop i txt) = [61, 61] := by rw [Nat.add_sub_cancel_left, h]; rfl
  rw [e]
  rfl
end
end Go.Proofs.YtaifamiafiefkaaGreatDoor
