/- What the functions that the law reaches answer, in plain data. -/
import Derived.Test.YtoefhpgdmkckiaaDoorT
import Derived.Test.YtoefhpgdmkckiaaDoorAbs9
section
set_option maxRecDepth 100000
set_option maxHeartbeats 1000000
set_option linter.unusedVariables false
set_option linter.unusedSimpArgs false
namespace Go.Proofs.YtoefhpgdmkckiaaDoor
open Go Go.Abs

section
variable {R : Type}
theorem res_b (b : Bool) (K : Bool × Unit → Option R) : tRes (.val (.one .bool) []) (some (.one (bC b), [])) K = K (b, ()) := rfl
theorem res_i (b : Int) (K : Int × Unit → Option R) : tRes (.val (.one (.int .i64)) []) (some (.one (iC b), [])) K = K (b, ()) := rfl
theorem res_s (b : BB) (K : BB × Unit → Option R) : tRes (.val (.one .str) []) (some (.one (sC b), [])) K = K (b, ()) := rfl
theorem res_bp (b : Bool) (p : BX0) (K : Bool × BX0 × Unit → Option R) : tRes (.val (.one .bool) [[.im 3, .int .i64, .int .i64, .int .i64, .str, .tg 3, .tg 6, .tg 10]]) (some (.one (bC b), [bx0 p])) K = K (b, p, ()) := rfl
theorem res_ip (b : Int) (p : BX0) (K : Int × BX0 × Unit → Option R) : tRes (.val (.one (.int .i64)) [[.im 3, .int .i64, .int .i64, .int .i64, .str, .tg 3, .tg 6, .tg 10]]) (some (.one (iC b), [bx0 p])) K = K (b, p, ()) := rfl
theorem res_sp (b : BB) (p : BX0) (K : BB × BX0 × Unit → Option R) : tRes (.val (.one .str) [[.im 3, .int .i64, .int .i64, .int .i64, .str, .tg 3, .tg 6, .tg 10]]) (some (.one (sC b), [bx0 p])) K = K (b, p, ()) := rfl
theorem res_up (p : BX0) (K : Unit × BX0 × Unit → Option R) : tRes (.tup [] [[.im 3, .int .i64, .int .i64, .int .i64, .str, .tg 3, .tg 6, .tg 10]]) (some (.tup [], [bx0 p])) K = K ((), p, ()) := rfl
theorem res_err (n : Int) (K : (Int × Bool × Unit) × Unit → Option R) : tRes (.tup [.one (.int .i64), .ifc] []) (some (.tup [.one (iC n), .one .nili], [])) K = K ((n, true, ()), ()) := rfl
end

/-- A token: its kind, its text, where it stands. -/
structure TK where
  k : Int
  s : BB
  a : Int
def cT (t : TK) : List D := [.int .i64 t.k, .str t.s, .int .i64 t.a]

/-- What a parser holds beside its tokens. -/
abbrev PX := BB × (Tag × RR) × (Tag × RR) × (Tag × RR) × Unit
/-- A parser. -/
def pB (l : List TK) (at_ : Int) (e bad : Int) (x : PX) : BX0 := ((false, l.map cT), at_, e, bad, x)

theorem t14_eq (m : Nat) (l : List TK) (a e b : Int) (x : PX) : T (m + 1) 14 [pE] [bx0 (pB l a e b x)] = some (.one (bC (decide (b ≥ 0))), [bx0 (pB l a e b x)]) := by
  rw [T_succ]; rfl
theorem more_bad (m : Nat) (l : List TK) (a e b : Int) (x : PX) (hb : 0 ≤ b) : T (m + 2) 8 [pE] [bx0 (pB l a e b x)] = some (.one (bC false), [bx0 (pB l a e b x)]) := by
  rw [T_succ]
  show tt8 (T (m + 1)) (m + 1) _ _ _ _ _ _ _ _ _ _ _ _ = _
  have h := t14_eq m l a e b x
  unfold tt8
  change tRes _ (T (m + 1) 14 [pE] [bx0 (pB l a e b x)]) _ = _
  rw [h, res_bp, show decide (b ≥ 0) = true from decide_eq_true hb]
  rfl
theorem more_ok (m : Nat) (l : List TK) (a : Nat) (e b : Int) (x : PX) (hb : b < 0) : T (m + 2) 8 [pE] [bx0 (pB l a e b x)] = some (.one (bC (decide (a < l.length))), [bx0 (pB l a e b x)]) := by
  rw [T_succ]
  show tt8 (T (m + 1)) (m + 1) _ _ _ _ _ _ _ _ _ _ _ _ = _
  have h := t14_eq m l a e b x
  unfold tt8
  change tRes _ (T (m + 1) 14 [pE] [bx0 (pB l a e b x)]) _ = _
  rw [h, res_bp, show decide (b ≥ 0) = false from decide_eq_false (by omega)]
  have hd : decide ((a : Int) < natI (l.map cT).length) = decide (a < l.length) := by
    unfold natI
    rw [List.length_map]
    exact decide_eq_decide.2 (by omega)
  show some (V.one (bC (decide ((a : Int) < natI (l.map cT).length))), _) = _
  rw [hd]
end Go.Proofs.YtoefhpgdmkckiaaDoor
end
section
set_option maxRecDepth 100000
set_option maxHeartbeats 1000000
set_option linter.unusedVariables false
set_option linter.unusedSimpArgs false
namespace Go.Proofs.YtoefhpgdmkckiaaDoor
open Go Go.Abs

theorem asI_n (n : Nat) : asI (n : Int) = some n := by unfold asI; simp
theorem qO {β R : Type} (x : β) (k : β → Option R) : qOpt (some x) k = k x := rfl

def isB (l : List TK) (a : Nat) (s : BB) : Bool := match l[a]? with | some t => t.s == s && (t.k == 0 || t.k == 3) | none => false
theorem map_get {l : List TK} {a : Nat} {t : TK} (h : l[a]? = some t) : (l.map cT)[a]? = some (cT t) := by rw [List.getElem?_map, h]; rfl
theorem lt_of_get {l : List TK} {a : Nat} {t : TK} (h : l[a]? = some t) : decide (a < l.length) = true := decide_eq_true (List.getElem?_eq_some_iff.1 h).1
theorem ge_of_get {l : List TK} {a : Nat} (h : l[a]? = none) : decide (a < l.length) = false := decide_eq_false (by have := List.getElem?_eq_none_iff.1 h; omega)

theorem is_ok (m : Nat) (l : List TK) (a : Nat) (e b : Int) (x : PX) (s : BB) (hb : b < 0) :
    T (m + 3) 24 [pE, .one (sC s)] [bx0 (pB l a e b x)] = some (.one (bC (isB l a s)), [bx0 (pB l a e b x)]) := by
  rw [T_succ]
  show tt24 (T (m + 2)) (m + 2) _ _ _ _ _ _ _ _ _ _ _ _ _ = _
  have h := more_ok m l a e b x hb
  unfold tt24
  change tRes _ (T (m + 2) 8 [pE] [bx0 (pB l a e b x)]) _ = _
  rw [h, res_bp]
  unfold isB
  cases hl : l[a]? with
  | none => rw [ge_of_get hl]; rfl
  | some t =>
    rw [lt_of_get hl]
    have hm := map_get hl
    have e1 : (pB l a e b x).2.1 = (a : Int) := rfl
    have e2 : (pB l a e b x).1.2 = l.map cT := rfl
    simp only [cond_true, e1, e2, asI_n, qO, hm]
    change (bif t.s == s then (bif t.k == 0 then some (V.one (bC true), _) else some (V.one (bC (t.k == 3)), _)) else some (V.one (bC false), _)) = _
    cases t.s == s <;> cases t.k == 0 <;> rfl
theorem is_bad (m : Nat) (l : List TK) (a e b : Int) (x : PX) (s : BB) (hb : 0 ≤ b) :
    T (m + 3) 24 [pE, .one (sC s)] [bx0 (pB l a e b x)] = some (.one (bC false), [bx0 (pB l a e b x)]) := by
  rw [T_succ]
  show tt24 (T (m + 2)) (m + 2) _ _ _ _ _ _ _ _ _ _ _ _ _ = _
  have h := more_bad m l a e b x hb
  unfold tt24
  change tRes _ (T (m + 2) 8 [pE] [bx0 (pB l a e b x)]) _ = _
  rw [h, res_bp]
  rfl
theorem take_bad (m : Nat) (l : List TK) (a e b : Int) (x : PX) (s : BB) (hb : 0 ≤ b) :
    T (m + 4) 9 [pE, .one (sC s)] [bx0 (pB l a e b x)] = some (.one (bC false), [bx0 (pB l a e b x)]) := by
  rw [T_succ]
  show tt9 (T (m + 3)) (m + 3) _ _ _ _ _ _ _ _ _ _ _ _ _ = _
  have h := is_bad m l a e b x s hb
  unfold tt9
  change tRes _ (T (m + 3) 24 [pE, .one (sC s)] [bx0 (pB l a e b x)]) _ = _
  rw [h, res_bp]
  rfl
theorem take_no (m : Nat) (l : List TK) (a : Nat) (e b : Int) (x : PX) (s : BB) (hb : b < 0) (hi : isB l a s = false) :
    T (m + 4) 9 [pE, .one (sC s)] [bx0 (pB l a e b x)] = some (.one (bC false), [bx0 (pB l a e b x)]) := by
  rw [T_succ]
  show tt9 (T (m + 3)) (m + 3) _ _ _ _ _ _ _ _ _ _ _ _ _ = _
  have h := is_ok m l a e b x s hb
  unfold tt9
  change tRes _ (T (m + 3) 24 [pE, .one (sC s)] [bx0 (pB l a e b x)]) _ = _
  rw [h, res_bp, hi]
  rfl
theorem w_succ {a : Nat} (h : a < 100000000) : w64 ((a : Int) + 1) = ((a + 1 : Nat) : Int) := by
  unfold w64
  rw [wrap_i64 (by omega) (by omega)]
  omega
theorem take_yes (m : Nat) (l : List TK) (a : Nat) (e b : Int) (x : PX) (s : BB) (hb : b < 0) (hi : isB l a s = true) (ha : a < 100000000) :
    T (m + 4) 9 [pE, .one (sC s)] [bx0 (pB l a e b x)] = some (.one (bC true), [bx0 (pB l (a + 1 : Nat) e b x)]) := by
  rw [T_succ]
  show tt9 (T (m + 3)) (m + 3) _ _ _ _ _ _ _ _ _ _ _ _ _ = _
  have h := is_ok m l a e b x s hb
  unfold tt9
  change tRes _ (T (m + 3) 24 [pE, .one (sC s)] [bx0 (pB l a e b x)]) _ = _
  rw [h, res_bp, hi, ← w_succ ha]
  rfl
theorem fail_bad (m : Nat) (l : List TK) (a e b : Int) (x : PX) (hb : 0 ≤ b) :
    T (m + 2) 13 [pE] [bx0 (pB l a e b x)] = some (.tup [], [bx0 (pB l a e b x)]) := by
  rw [T_succ]
  show tt13 (T (m + 1)) (m + 1) _ _ _ _ _ _ _ _ _ _ _ _ = _
  have h := t14_eq m l a e b x
  unfold tt13
  change tRes _ (T (m + 1) 14 [pE] [bx0 (pB l a e b x)]) _ = _
  rw [h, res_bp, show decide (b ≥ 0) = true from decide_eq_true hb]
  rfl
theorem fail_at (m : Nat) (l : List TK) (a : Nat) (e b : Int) (x : PX) (t : TK) (hb : b < 0) (hl : l[a]? = some t) :
    T (m + 2) 13 [pE] [bx0 (pB l a e b x)] = some (.tup [], [bx0 (pB l a e t.a x)]) := by
  rw [T_succ]
  show tt13 (T (m + 1)) (m + 1) _ _ _ _ _ _ _ _ _ _ _ _ = _
  have h := t14_eq m l a e b x
  unfold tt13
  change tRes _ (T (m + 1) 14 [pE] [bx0 (pB l a e b x)]) _ = _
  rw [h, res_bp, show decide (b ≥ 0) = false from decide_eq_false (by omega)]
  have hm := map_get hl
  have e1 : (pB l a e b x).2.1 = (a : Int) := rfl
  have e2 : (pB l a e b x).1.2 = l.map cT := rfl
  have hd : decide ((a : Int) < natI (l.map cT).length) = true := by
    have := of_decide_eq_true (lt_of_get hl)
    unfold natI; rw [List.length_map]
    exact decide_eq_true (by omega)
  simp only [cond_false, e1, e2, asI_n, qO, hm, hd, cond_true]
  rfl
theorem need_bad (m : Nat) (l : List TK) (a e b : Int) (x : PX) (s : BB) (hb : 0 ≤ b) :
    T (m + 5) 26 [pE, .one (sC s)] [bx0 (pB l a e b x)] = some (.tup [], [bx0 (pB l a e b x)]) := by
  rw [T_succ]
  show tt26 (T (m + 4)) (m + 4) _ _ _ _ _ _ _ _ _ _ _ _ _ = _
  have h := take_bad m l a e b x s hb
  have h2 := fail_bad (m + 2) l a e b x hb
  unfold tt26
  change tRes _ (T (m + 4) 9 [pE, .one (sC s)] [bx0 (pB l a e b x)]) _ = _
  rw [h, res_bp]
  change tRes _ (T (m + 4) 13 [pE] [bx0 (pB l a e b x)]) _ = _
  rw [h2, res_up]
theorem need_yes (m : Nat) (l : List TK) (a : Nat) (e b : Int) (x : PX) (s : BB) (hb : b < 0) (hi : isB l a s = true) (ha : a < 100000000) :
    T (m + 5) 26 [pE, .one (sC s)] [bx0 (pB l a e b x)] = some (.tup [], [bx0 (pB l (a + 1 : Nat) e b x)]) := by
  rw [T_succ]
  show tt26 (T (m + 4)) (m + 4) _ _ _ _ _ _ _ _ _ _ _ _ _ = _
  have h := take_yes m l a e b x s hb hi ha
  unfold tt26
  change tRes _ (T (m + 4) 9 [pE, .one (sC s)] [bx0 (pB l a e b x)]) _ = _
  rw [h, res_bp]
  rfl
end Go.Proofs.YtoefhpgdmkckiaaDoor
end
section
set_option maxRecDepth 100000
set_option maxHeartbeats 1000000
set_option linter.unusedVariables false
set_option linter.unusedSimpArgs false
namespace Go.Proofs.YtoefhpgdmkckiaaDoor
open Go Go.Abs

theorem name_bad (m : Nat) (l : List TK) (a e b : Int) (x : PX) (hb : 0 ≤ b) :
    T (m + 4) 25 [pE] [bx0 (pB l a e b x)] = some (.one (sC []), [bx0 (pB l a e b x)]) := by
  rw [T_succ]
  show tt25 (T (m + 3)) (m + 3) _ _ _ _ _ _ _ _ _ _ _ _ = _
  have h8 := more_bad m l a e b x hb
  have h36 : T (m + 3) 36 [pE] [bx0 (pB l a e b x)] = some (.one (bC false), [bx0 (pB l a e b x)]) := by
    rw [T_succ]
    show tt36 (T (m + 2)) (m + 2) _ _ _ _ _ _ _ _ _ _ _ _ = _
    unfold tt36
    change tRes _ (T (m + 2) 8 [pE] [bx0 (pB l a e b x)]) _ = _
    rw [h8, res_bp]
    rfl
  have h13 := fail_bad (m + 1) l a e b x hb
  unfold tt25
  change tRes _ (T (m + 3) 36 [pE] [bx0 (pB l a e b x)]) _ = _
  rw [h36, res_bp]
  change tRes _ (T (m + 3) 13 [pE] [bx0 (pB l a e b x)]) _ = _
  rw [h13, res_up]
/-- A name is taken. -/
theorem name_ok (m : Nat) (l : List TK) (a : Nat) (e b : Int) (x : PX) (t : TK) (hb : b < 0) (hl : l[a]? = some t) (hk : t.k = 0) (ha : a < 100000000)
    (hm : T (m + 2) 41 [.one (sC t.s)] [] = some (.one (bC true), [])) :
    T (m + 4) 25 [pE] [bx0 (pB l a e b x)] = some (.one (sC t.s), [bx0 (pB l (a + 1 : Nat) e b x)]) := by
  rw [T_succ]
  show tt25 (T (m + 3)) (m + 3) _ _ _ _ _ _ _ _ _ _ _ _ = _
  have h8 := more_ok m l a e b x hb
  have hg := map_get hl
  have e1 : (pB l a e b x).2.1 = (a : Int) := rfl
  have e2 : (pB l a e b x).1.2 = l.map cT := rfl
  have h36 : T (m + 3) 36 [pE] [bx0 (pB l a e b x)] = some (.one (bC true), [bx0 (pB l a e b x)]) := by
    rw [T_succ]
    show tt36 (T (m + 2)) (m + 2) _ _ _ _ _ _ _ _ _ _ _ _ = _
    unfold tt36
    change tRes _ (T (m + 2) 8 [pE] [bx0 (pB l a e b x)]) _ = _
    rw [h8, res_bp, lt_of_get hl]
    simp only [cond_true, e1, e2, asI_n, qO, hg]
    change (bif t.k == 0 then tRes _ (T (m + 2) 41 [.one (sC t.s)] []) _ else _) = _
    rw [hk, hm]
    rfl
  unfold tt25
  change tRes _ (T (m + 3) 36 [pE] [bx0 (pB l a e b x)]) _ = _
  rw [h36, res_bp]
  have hw : w64 (((a + 1 : Nat) : Int) - 1) = (a : Int) := by
    unfold w64
    rw [wrap_i64 (by omega) (by omega)]
    omega
  simp only [Bool.not_true, cond_false, e1, e2, w_succ ha, hw, asI_n, qO, hg]
  rfl

theorem place_no (m : Nat) (l : List TK) (a : Nat) (e b : Int) (x : PX) (t : TK) (this k : Int) (hb : b < 0) (hl : l[a]? = some t) (hk : t.k = 1)
    (hm : T (m + 3) 37 [.one (sC t.s)] [] = some (.tup [.one (iC k), .one .nili], [])) (h0 : 0 ≤ k) (h9 : k ≤ 999) (ht : 0 ≤ this) (hne : k ≠ this) :
    T (m + 4) 27 [pE, .one (iC this)] [bx0 (pB l a e b x)] = some (.one (iC 0), [bx0 (pB l a e t.a x)]) := by
  rw [T_succ]
  show tt27 (T (m + 3)) (m + 3) _ _ _ _ _ _ _ _ _ _ _ _ _ = _
  have h8 := more_ok (m + 1) l a e b x hb
  have hg := map_get hl
  have e1 : (pB l a e b x).2.1 = (a : Int) := rfl
  have e2 : (pB l a e b x).1.2 = l.map cT := rfl
  have h13 := fail_at (m + 1) l a e b x t hb hl
  unfold tt27
  change tRes _ (T (m + 3) 8 [pE] [bx0 (pB l a e b x)]) _ = _
  rw [h8, res_bp, lt_of_get hl]
  simp only [cond_true, e1, e2, asI_n, qO, hg]
  change (bif t.k == 1 then tRes _ (T (m + 3) 37 [.one (sC t.s)] []) _ else _) = _
  rw [hk, hm]
  change (bif decide (k ≥ 0) then (bif decide (k ≤ 999) then (bif decide (this < 0) then _ else (bif k == this then _ else tRes _ (T (m + 3) 13 [pE] [bx0 (pB l a e b x)]) _)) else _) else _) = _
  rw [h13, res_up, show decide (k ≥ 0) = true from decide_eq_true h0, show decide (k ≤ 999) = true from decide_eq_true h9, show decide (this < 0) = false from decide_eq_false (by omega), show (k == this) = false from by simpa using hne]
  rfl
theorem place_yes (m : Nat) (l : List TK) (a : Nat) (e b : Int) (x : PX) (t : TK) (k : Int) (hb : b < 0) (hl : l[a]? = some t) (hk : t.k = 1) (ha : a < 100000000)
    (hm : T (m + 3) 37 [.one (sC t.s)] [] = some (.tup [.one (iC k), .one .nili], [])) (h0 : 0 ≤ k) (h9 : k ≤ 999) :
    T (m + 4) 27 [pE, .one (iC k)] [bx0 (pB l a e b x)] = some (.one (iC k), [bx0 (pB l (a + 1 : Nat) e b x)]) := by
  rw [T_succ]
  show tt27 (T (m + 3)) (m + 3) _ _ _ _ _ _ _ _ _ _ _ _ _ = _
  have h8 := more_ok (m + 1) l a e b x hb
  have hg := map_get hl
  have e1 : (pB l a e b x).2.1 = (a : Int) := rfl
  have e2 : (pB l a e b x).1.2 = l.map cT := rfl
  unfold tt27
  change tRes _ (T (m + 3) 8 [pE] [bx0 (pB l a e b x)]) _ = _
  rw [h8, res_bp, lt_of_get hl]
  simp only [cond_true, e1, e2, asI_n, qO, hg, w_succ ha]
  change (bif t.k == 1 then tRes _ (T (m + 3) 37 [.one (sC t.s)] []) _ else _) = _
  rw [hk, hm]
  change (bif decide (k ≥ 0) then (bif decide (k ≤ 999) then (bif decide (k < 0) then _ else (bif k == k then some _ else _)) else _) else _) = _
  rw [show decide (k ≥ 0) = true from decide_eq_true h0, show decide (k ≤ 999) = true from decide_eq_true h9, show decide (k < 0) = false from decide_eq_false (by omega), show (k == k) = true from by simp]
  rfl

/-- The arms of a parser that has failed. -/
theorem arms_bad (m : Nat) (l : List TK) (a e b : Int) (x : PX) (hb : 0 ≤ b) :
    T (m + 6) 28 [pE] [bx0 (pB l a e b x)] = some (.one (lC (.im true) 4 []), [bx0 (pB l a e b x)]) := by
  rw [T_succ]
  show tt28 (T (m + 5)) (m + 5) _ _ _ _ _ _ _ _ _ _ _ _ _ = _
  have h26 := fun s => need_bad m l a e b x s hb
  have h14 := t14_eq (m + 4) l a e b x
  unfold tt28
  change tRes _ (T (m + 5) 26 [pE, .one (sC [123])] [bx0 (pB l a e b x)]) _ = _
  rw [h26, res_up]
  rw [l28_0_e0]
  unfold w28_0_0
  change tRes _ (T (m + 5) 14 [pE] [bx0 (pB l a e b x)]) _ = _
  rw [h14, res_bp, show decide (b ≥ 0) = true from decide_eq_true hb]
  change tRes _ (T (m + 5) 26 [pE, .one (sC [125])] [bx0 (pB l a e b x)]) _ = _
  rw [h26, res_up]
end Go.Proofs.YtoefhpgdmkckiaaDoor
end
section
set_option maxRecDepth 100000
set_option maxHeartbeats 2000000
set_option linter.unusedVariables false
set_option linter.unusedSimpArgs false
namespace Go.Proofs.YtoefhpgdmkckiaaDoor
open Go Go.Abs

section
variable {R : Type}
theorem res_ap (n : Nat) (z : Nat) (t : Bool) (r : RR) (p : BX0) (K : (Bool × RR) × BX0 × Unit → Option R) : tRes (.val (.one (.im 4)) [[.im 3, .int .i64, .int .i64, .int .i64, .str, .tg 3, .tg 6, .tg 10]]) (some (.one (lC (.im t) 4 r), [bx0 p])) K = K ((t, r), p, ()) := rfl
end

def pst (p : BX0) (nm : BB) (rt : Tag) (rr : RR) (pt : Tag) (pr : RR) : S10_0 :=
  .s0 p.1.1 p.1.2 p.2.1 p.2.2.1 p.2.2.2.1 p.2.2.2.2.1 p.2.2.2.2.2.1.1 p.2.2.2.2.2.1.2 p.2.2.2.2.2.2.1.1 p.2.2.2.2.2.2.1.2 p.2.2.2.2.2.2.2.1.1 p.2.2.2.2.2.2.2.1.2 [] (.im true) [] (.im true) [] nm rt rr pt pr
def PL (C : Oracle) (n : Nat) (q : BX0) (k : Nat) : S10_0 → OR :=
  l10_0 C n q.1.1 q.1.2 q.2.1 q.2.2.1 q.2.2.2.1 q.2.2.2.2.1 q.2.2.2.2.2.1.1 q.2.2.2.2.2.1.2 q.2.2.2.2.2.2.1.1 q.2.2.2.2.2.2.1.2 q.2.2.2.2.2.2.2.1.1 q.2.2.2.2.2.2.2.1.2 k

def zP : List D := [.str [], .str [], .sl (.im true) 4 []]
theorem guard1 (r : RR) : (r.length == r.length && (!r.isEmpty || true)) = true := by simp
theorem guard2 (r : RR) : decide (0 + r.length ≤ r.length) = true := by simp

/-- The loop over the points, of a parser that has failed. -/
theorem pts_bad (m k n : Nat) (q : BX0) (l : List TK) (a e b : Int) (x : PX) (nm : BB) (rr pr : RR) (hb : 0 ≤ b) :
    PL (T (m + 5)) n q (k + 1) (pst (pB l a e b x) nm .own rr .own pr) = some (.agg [sC nm, lC (.im false) 1 (plainRs (whole rr)), lC (.im false) 3 (plainRs (whole pr))], [bx0 (pB l a e b x)]) := by
  unfold PL pst
  rw [l10_0_e0]
  unfold w10_0_0
  have h14 := t14_eq (m + 4) l a e b x
  have h26 := need_bad m l a e b x [125] hb
  change tRes _ (T (m + 5) 14 [pE] [bx0 (pB l a e b x)]) _ = _
  rw [h14, res_bp, show decide (b ≥ 0) = true from decide_eq_true hb]
  change tRes _ (T (m + 5) 26 [pE, .one (sC [125])] [bx0 (pB l a e b x)]) _ = _
  rw [h26, res_up]
  simp only [tagI, guard1, guard2, cond_true]

/-- One point whose number is not the one that is due: the parser fails there. -/
theorem pt_no (m k n : Nat) (q : BX0) (l : List TK) (a : Nat) (e b : Int) (x : PX) (nm : BB) (rr pr : RR) (pt : Tag) (t : TK) (z : Int) (hb : b < 0) (hl : l[a]? = some t) (hk : t.k = 1)
    (hp : (pt = .im true ∧ pr = []) ∨ pt = .own) (h37 : T (m + 5) 37 [.one (sC t.s)] [] = some (.tup [.one (iC z), .one .nili], [])) (h0 : 0 ≤ z) (h9 : z ≤ 999) (hz : z ≠ natI pr.length) (hta : 0 ≤ t.a) (hlen : pr.length ≤ 1000) :
    ∃ pr', PL (T (m + 6)) n q (k + 2) (pst (pB l a e b x) nm .own rr pt pr) = some (.agg [sC nm, lC (.im false) 1 (plainRs (whole rr)), lC (.im false) 3 pr'], [bx0 (pB l a e t.a x)]) := by
  have h14 := t14_eq (m + 5) l a e b x
  have hi : isB l a [125] = false := by
    unfold isB; rw [hl]; simp only [hk]
    cases t.s == [125] <;> rfl
  have h24 := is_ok (m + 3) l a e b x [125] hb
  rw [hi] at h24
  have h27 := place_no (m + 2) l a e b x t (natI pr.length) z hb hl hk h37 h0 h9 (by unfold natI; omega) hz
  have h26 := fun s => need_bad (m + 1) l a e t.a x s hta
  have h9' := fun s => take_bad (m + 2) l a e t.a x s hta
  have h25 := name_bad (m + 2) l a e t.a x hta
  have h28 := arms_bad m l a e t.a x hta
  rcases hp with ⟨rfl, rfl⟩ | rfl
  · refine ⟨plainRs (whole [zP]), ?_⟩
    unfold PL pst
    rw [l10_0_e0]
    unfold w10_0_0
    change tRes _ (T (m + 6) 14 [pE] [bx0 (pB l a e b x)]) _ = _
    rw [h14, res_bp, show decide (b ≥ 0) = false from decide_eq_false (by omega)]
    change tRes _ (T (m + 6) 24 [pE, .one (sC [125])] [bx0 (pB l a e b x)]) _ = _
    rw [h24, res_bp]
    change tRes _ (T (m + 6) 27 [pE, .one (iC (natI ([] : RR).length))] [bx0 (pB l a e b x)]) _ = _
    rw [h27, res_ip]
    change tRes _ (T (m + 6) 26 [pE, .one (sC [58])] [bx0 (pB l a e t.a x)]) _ = _
    rw [h26, res_up]
    change tRes _ (T (m + 6) 9 [pE, .one (sC [101, 110, 100])] [bx0 (pB l a e t.a x)]) _ = _
    rw [h9', res_bp]
    change tRes _ (T (m + 6) 25 [pE] [bx0 (pB l a e t.a x)]) _ = _
    rw [h25, res_sp]
    change tRes _ (T (m + 6) 26 [pE, .one (sC [45, 62])] [bx0 (pB l a e t.a x)]) _ = _
    rw [h26, res_up]
    change tRes _ (T (m + 6) 25 [pE] [bx0 (pB l a e t.a x)]) _ = _
    rw [h25, res_sp]
    change tRes _ (T (m + 6) 28 [pE] [bx0 (pB l a e t.a x)]) _ = _
    rw [h28, res_ap 0 0]
    exact pts_bad (m + 1) k n q l a e t.a x nm rr _ hta
  · refine ⟨plainRs (whole (pr ++ [zP])), ?_⟩
    unfold PL pst
    rw [l10_0_e0]
    unfold w10_0_0
    change tRes _ (T (m + 6) 14 [pE] [bx0 (pB l a e b x)]) _ = _
    rw [h14, res_bp, show decide (b ≥ 0) = false from decide_eq_false (by omega)]
    change tRes _ (T (m + 6) 24 [pE, .one (sC [125])] [bx0 (pB l a e b x)]) _ = _
    rw [h24, res_bp]
    change tRes _ (T (m + 6) 27 [pE, .one (iC (natI pr.length))] [bx0 (pB l a e b x)]) _ = _
    rw [h27, res_ip]
    change tRes _ (T (m + 6) 26 [pE, .one (sC [58])] [bx0 (pB l a e t.a x)]) _ = _
    rw [h26, res_up]
    change tRes _ (T (m + 6) 9 [pE, .one (sC [101, 110, 100])] [bx0 (pB l a e t.a x)]) _ = _
    rw [h9', res_bp]
    change tRes _ (T (m + 6) 25 [pE] [bx0 (pB l a e t.a x)]) _ = _
    rw [h25, res_sp]
    change tRes _ (T (m + 6) 26 [pE, .one (sC [45, 62])] [bx0 (pB l a e t.a x)]) _ = _
    rw [h26, res_up]
    change tRes _ (T (m + 6) 25 [pE] [bx0 (pB l a e t.a x)]) _ = _
    rw [h25, res_sp]
    change tRes _ (T (m + 6) 28 [pE] [bx0 (pB l a e t.a x)]) _ = _
    rw [h28, res_ap 0 0]
    have hg : (pr.length == pr.length && true && decide ((pr.length + 1) * 56 ≤ 140737488355328)) = true := by
      rw [show decide ((pr.length + 1) * 56 ≤ 140737488355328) = true from decide_eq_true (by omega)]; simp
    rw [hg]
    exact pts_bad (m + 1) k n q l a e t.a x nm rr _ hta

/-- One point that is the end. -/
theorem pt_end (m k n : Nat) (q : BX0) (l : List TK) (a : Nat) (e b : Int) (x : PX) (nm : BB) (rr pr : RR) (pt : Tag) (t t1 t2 : TK) (hb : b < 0) (hl : l[a]? = some t) (hk : t.k = 1) (hl1 : l[a + 1]? = some t1) (h1 : t1.s = [58] ∧ t1.k = 3) (hl2 : l[a + 2]? = some t2) (h2 : t2.s = [101, 110, 100] ∧ t2.k = 0)
    (hp : (pt = .im true ∧ pr = []) ∨ pt = .own) (h37 : T (m + 5) 37 [.one (sC t.s)] [] = some (.tup [.one (iC (natI pr.length)), .one .nili], [])) (hlen : pr.length ≤ 999) (ha : a < 10000000) :
    PL (T (m + 6)) n q (k + 1) (pst (pB l a e b x) nm .own rr pt pr) = PL (T (m + 6)) n q k (pst (pB l (a + 3 : Nat) e b x) nm .own rr .own (pr ++ [zP])) := by
  have h14 := t14_eq (m + 5) l a e b x
  have hi : isB l a [125] = false := by
    unfold isB; rw [hl]; simp only [hk]
    cases t.s == [125] <;> rfl
  have h24 := is_ok (m + 3) l a e b x [125] hb
  rw [hi] at h24
  have h27 := place_yes (m + 2) l a e b x t (natI pr.length) hb hl hk (by omega) h37 (by unfold natI; omega) (by unfold natI; omega)
  have h26 := need_yes (m + 1) l (a + 1) e b x [58] hb (by unfold isB; rw [hl1]; simp [h1.1, h1.2]) (by omega)
  have h9' := take_yes (m + 2) l (a + 2) e b x [101, 110, 100] hb (by unfold isB; rw [hl2]; simp [h2.1, h2.2]) (by omega)
  have hg : (pr.length == pr.length && true && decide ((pr.length + 1) * 56 ≤ 140737488355328)) = true := by
    rw [show decide ((pr.length + 1) * 56 ≤ 140737488355328) = true from decide_eq_true (by omega)]; simp
  rcases hp with ⟨rfl, rfl⟩ | rfl
  · unfold PL pst
    rw [l10_0_e0]
    unfold w10_0_0
    change tRes _ (T (m + 6) 14 [pE] [bx0 (pB l a e b x)]) _ = _
    rw [h14, res_bp, show decide (b ≥ 0) = false from decide_eq_false (by omega)]
    change tRes _ (T (m + 6) 24 [pE, .one (sC [125])] [bx0 (pB l a e b x)]) _ = _
    rw [h24, res_bp]
    change tRes _ (T (m + 6) 27 [pE, .one (iC (natI ([] : RR).length))] [bx0 (pB l a e b x)]) _ = _
    rw [h27, res_ip]
    change tRes _ (T (m + 6) 26 [pE, .one (sC [58])] [bx0 (pB l (a + 1 : Nat) e b x)]) _ = _
    rw [h26, res_up]
    change tRes _ (T (m + 6) 9 [pE, .one (sC [101, 110, 100])] [bx0 (pB l (a + 2 : Nat) e b x)]) _ = _
    rw [h9', res_bp]
    rfl
  · unfold PL pst
    rw [l10_0_e0]
    unfold w10_0_0
    change tRes _ (T (m + 6) 14 [pE] [bx0 (pB l a e b x)]) _ = _
    rw [h14, res_bp, show decide (b ≥ 0) = false from decide_eq_false (by omega)]
    change tRes _ (T (m + 6) 24 [pE, .one (sC [125])] [bx0 (pB l a e b x)]) _ = _
    rw [h24, res_bp]
    change tRes _ (T (m + 6) 27 [pE, .one (iC (natI pr.length))] [bx0 (pB l a e b x)]) _ = _
    rw [h27, res_ip]
    change tRes _ (T (m + 6) 26 [pE, .one (sC [58])] [bx0 (pB l (a + 1 : Nat) e b x)]) _ = _
    rw [h26, res_up]
    change tRes _ (T (m + 6) 9 [pE, .one (sC [101, 110, 100])] [bx0 (pB l (a + 2 : Nat) e b x)]) _ = _
    rw [h9', res_bp]
    change (bif (pr.length == pr.length && true && decide ((pr.length + 1) * 56 ≤ 140737488355328)) then _ else none) = _
    rw [hg]
    rfl
end Go.Proofs.YtoefhpgdmkckiaaDoor
end
section
set_option maxRecDepth 100000
set_option maxHeartbeats 2000000
set_option linter.unusedVariables false
set_option linter.unusedSimpArgs false
namespace Go.Proofs.YtoefhpgdmkckiaaDoor
open Go Go.Abs

section
variable {R : Type}
theorem res_pr (s : BB) (t u : Bool) (r w : RR) (p : BX0) (K : (BB × (Bool × RR) × (Bool × RR) × Unit) × BX0 × Unit → Option R) :
    tRes (.val (.agg [.str, .im 1, .im 3]) [[.im 3, .int .i64, .int .i64, .int .i64, .str, .tg 3, .tg 6, .tg 10]]) (some (.agg [sC s, lC (.im t) 1 r, lC (.im u) 3 w], [bx0 p])) K = K ((s, (t, r), (u, w), ()), p, ()) := rfl
theorem res_tk (t : Bool) (r : RR) (a e : Int) (K : ((Bool × RR) × Int × Int × Unit) × Unit → Option R) :
    tRes (.tup [(.one (.im 3)), (.one (.int .i64)), (.one (.int .i64))] []) (some (.tup [.one (lC (.im t) 3 r), .one (iC a), .one (iC e)], [])) K = K (((t, r), a, e, ()), ()) := rfl
end

theorem bif_t {b : Bool} {x y z : OR} (h : b = true) (h2 : x = z) : (bif b then x else y) = z := by subst h; exact h2
theorem bif_f {b : Bool} {x y z : OR} (h : b = false) (h2 : y = z) : (bif b then x else y) = z := by subst h; exact h2
/-- The tokens of the law's text. -/
structure Toks (l : List TK) (N : Nat) (t : TK) (z : Int) (m : Nat) : Prop where
  t0 : ∃ u, l[0]? = some u ∧ u.s = [112, 114, 111, 116, 111, 99, 111, 108] ∧ u.k = 0
  t1 : ∃ u, l[1]? = some u ∧ u.s = [112] ∧ u.k = 0
  t2 : ∃ u, l[2]? = some u ∧ u.s = [114, 111, 108, 101, 115] ∧ u.k = 0
  t3 : ∃ u, l[3]? = some u ∧ u.s = [97] ∧ u.k = 0
  t4 : ∃ u, l[4]? = some u ∧ u.s = [44] ∧ u.k = 3
  t5 : ∃ u, l[5]? = some u ∧ u.s = [98] ∧ u.k = 0
  t6 : ∃ u, l[6]? = some u ∧ u.s = [123] ∧ u.k = 3
  pts : ∀ i < N, (∃ u, l[7 + 3 * i]? = some u ∧ u.k = 1 ∧ T (m + 5) 37 [.one (sC u.s)] [] = some (.tup [.one (iC (natI i)), .one .nili], [])) ∧
    (∃ u, l[7 + 3 * i + 1]? = some u ∧ u.s = [58] ∧ u.k = 3) ∧ (∃ u, l[7 + 3 * i + 2]? = some u ∧ u.s = [101, 110, 100] ∧ u.k = 0)
  tk : l[7 + 3 * N]? = some t
  kk : t.k = 1
  ka : 0 ≤ t.a
  h37 : T (m + 5) 37 [.one (sC t.s)] [] = some (.tup [.one (iC z), .one .nili], [])
  zz : 0 ≤ z ∧ z ≤ 999 ∧ z ≠ (N : Int)
  nn : N ≤ 900
  h41 : ∀ c ∈ [(112 : UInt8), 97, 98], T (m + 4) 41 [.one (sC [c])] [] = some (.one (bC true), [])

theorem isB_of {l : List TK} {a : Nat} {s : BB} (h : ∃ u, l[a]? = some u ∧ u.s = s ∧ (u.k = 0 ∨ u.k = 3)) : isB l a s = true := by
  obtain ⟨u, h1, h2, h3⟩ := h
  unfold isB
  rw [h1]
  rcases h3 with h3 | h3 <;> simp [h2, h3]

theorem pts_run {m n : Nat} {q : BX0} {l : List TK} {N : Nat} {t : TK} {z : Int} (h : Toks l N t z m) (e : Int) (x : PX) (nm : BB) (rr : RR) : ∀ (j i k : Nat), i + j = N →
    PL (T (m + 6)) n q (k + j) (pst (pB l (7 + 3 * i : Nat) e (-1) x) nm .own rr (if i = 0 then .im true else .own) (List.replicate i zP)) =
    PL (T (m + 6)) n q k (pst (pB l (7 + 3 * N : Nat) e (-1) x) nm .own rr (if N = 0 then .im true else .own) (List.replicate N zP))
  | 0, i, k, hi => by
    have hiN : i = N := by omega
    subst hiN
    rfl
  | j + 1, i, k, hi => by
    obtain ⟨⟨u, g1, g2, g3⟩, ⟨u1, g4, g5, g6⟩, ⟨u2, g7, g8, g9⟩⟩ := h.pts i (by omega)
    have hN := h.nn
    have hl : (List.replicate i zP).length = i := List.length_replicate
    have := pt_end m (k + j) n q l (7 + 3 * i) e (-1) x nm rr (List.replicate i zP) (if i = 0 then .im true else .own) u u1 u2 (by omega) g1 g2 g4 ⟨g5, g6⟩ g7 ⟨g8, g9⟩
      (by by_cases h0 : i = 0
          · left; subst h0; exact ⟨rfl, rfl⟩
          · right; rw [if_neg h0]) (by rw [hl]; exact g3) (by omega) (by omega)
    rw [show k + (j + 1) = (k + j) + 1 by omega, this]
    have ih := pts_run (n := n) (q := q) h e x nm rr j (i + 1) k (by omega)
    rw [if_neg (by omega : ¬ i + 1 = 0)] at ih
    rw [← ih, show 7 + 3 * i + 3 = 7 + 3 * (i + 1) by omega, List.replicate_succ']

theorem proto_no {m : Nat} {l : List TK} {N : Nat} {t : TK} {z : Int} (h : Toks l N t z m) (hm : N + 2 ≤ m + 6) (e : Int) (x : PX) :
    ∃ r pr', T (m + 7) 10 [pE] [bx0 (pB l (1 : Nat) e (-1) x)] = some (.agg [sC [112], lC (.im false) 1 r, lC (.im false) 3 pr'], [bx0 (pB l (7 + 3 * N : Nat) e t.a x)]) := by
  have hN := h.nn
  obtain ⟨u1, a1, a2, a3⟩ := h.t1
  obtain ⟨u3, c1, c2, c3⟩ := h.t3
  obtain ⟨u5, d1, d2, d3⟩ := h.t5
  have n1 := name_ok (m + 2) l 1 e (-1) x u1 (by omega) a1 a3 (by omega) (by rw [a2]; exact h.h41 112 (by simp))
  have n2 := need_yes (m + 1) l 2 e (-1) x [114, 111, 108, 101, 115] (by omega) (isB_of (by obtain ⟨u, p1, p2, p3⟩ := h.t2; exact ⟨u, p1, p2, .inl p3⟩)) (by omega)
  have n3 := name_ok (m + 2) l 3 e (-1) x u3 (by omega) c1 c3 (by omega) (by rw [c2]; exact h.h41 97 (by simp))
  have n4 := take_yes (m + 2) l 4 e (-1) x [44] (by omega) (isB_of (by obtain ⟨u, p1, p2, p3⟩ := h.t4; exact ⟨u, p1, p2, .inr p3⟩)) (by omega)
  have n5 := name_ok (m + 2) l 5 e (-1) x u5 (by omega) d1 d3 (by omega) (by rw [d2]; exact h.h41 98 (by simp))
  have n6 := take_no (m + 2) l 6 e (-1) x [44] (by omega) (by obtain ⟨u, p1, p2, p3⟩ := h.t6; unfold isB; rw [p1]; simp [p2])
  have n7 := need_yes (m + 1) l 6 e (-1) x [123] (by omega) (isB_of (by obtain ⟨u, p1, p2, p3⟩ := h.t6; exact ⟨u, p1, p2, .inr p3⟩)) (by omega)
  rw [a2] at n1
  rw [c2] at n3
  rw [d2] at n5
  have hrun := pts_run (n := m + 6) (q := pB l (1 : Nat) e (-1) x) h e x [112] ([[D.str [97]]] ++ [[D.str [98]]]) N 0 (m + 6 - N) (by omega)
  obtain ⟨k, hk⟩ : ∃ k, m + 6 - N = k + 2 := ⟨m + 6 - N - 2, by omega⟩
  have hl : (List.replicate N zP).length = N := List.length_replicate
  obtain ⟨pr', hfin⟩ := pt_no m k (m + 6) (pB l (1 : Nat) e (-1) x) l (7 + 3 * N) e (-1) x [112] ([[D.str [97]]] ++ [[D.str [98]]]) (List.replicate N zP) (if N = 0 then .im true else .own) t z (by omega) h.tk h.kk
    (by by_cases h0 : N = 0
        · left; subst h0; exact ⟨rfl, rfl⟩
        · right; rw [if_neg h0]) h.h37 h.zz.1 h.zz.2.1 (by rw [hl]; exact h.zz.2.2) h.ka (by omega)
  rw [hk, hfin, ← hk, show m + 6 - N + N = m + 6 by omega] at hrun
  refine ⟨plainRs (whole ([[D.str [97]]] ++ [[D.str [98]]])), pr', ?_⟩
  rw [T_succ]
  show tt10 (T (m + 6)) (m + 6) _ _ _ _ _ _ _ _ _ _ _ _ _ = _
  unfold tt10
  change tRes _ (T (m + 6) 25 [pE] [bx0 (pB l (1 : Nat) e (-1) x)]) _ = _
  rw [n1, res_sp]
  change tRes _ (T (m + 6) 26 [pE, .one (sC [114, 111, 108, 101, 115])] [bx0 (pB l (2 : Nat) e (-1) x)]) _ = _
  rw [n2, res_up]
  change tRes _ (T (m + 6) 25 [pE] [bx0 (pB l (3 : Nat) e (-1) x)]) _ = _
  rw [n3, res_sp]
  rw [l10_1_e0]
  unfold w10_1_0
  change tRes _ (T (m + 6) 9 [pE, .one (sC [44])] [bx0 (pB l (4 : Nat) e (-1) x)]) _ = _
  rw [n4, res_bp]
  change tRes _ (T (m + 6) 25 [pE] [bx0 (pB l (5 : Nat) e (-1) x)]) _ = _
  rw [n5, res_sp]
  refine bif_t (by simp) ?_
  rw [l10_1_e0]
  unfold w10_1_0
  change tRes _ (T (m + 6) 9 [pE, .one (sC [44])] [bx0 (pB l (6 : Nat) e (-1) x)]) _ = _
  rw [n6, res_bp]
  change tRes _ (T (m + 6) 26 [pE, .one (sC [123])] [bx0 (pB l (6 : Nat) e (-1) x)]) _ = _
  rw [n7, res_up]
  exact hrun

theorem prog_no {m : Nat} {l : List TK} {N : Nat} {t : TK} {z : Int} (h : Toks l N t z m) (hm : N + 2 ≤ m + 6) (text : BB)
    (h7 : T (m + 7) 7 [.one (sC text)] [] = some (.tup [.one (lC (.im false) 3 (l.map cT)), .one (iC 0), .one (iC 0)], [])) :
    T (m + 8) 6 [.one (sC text)] [] = some (.tup [.agg [lC (.im true) 3 [], lC (.im true) 2 [], lC (.im true) 4 []], .one (iC t.a), .one (iC 1701)], []) := by
  have x0 : PX := ([], (.im true, []), (.im true, []), (.im true, []), ())
  obtain ⟨r, pr', hp⟩ := proto_no h hm (natI text.length) ([], (.im true, []), (.im true, []), (.im true, []), ())
  have m1 := more_ok (m + 5) l 0 (natI text.length) (-1) ([], (.im true, []), (.im true, []), (.im true, []), ()) (by omega)
  obtain ⟨u0, b1, b2, b3⟩ := h.t0
  rw [lt_of_get b1] at m1
  have k1 := take_yes (m + 3) l 0 (natI text.length) (-1) ([], (.im true, []), (.im true, []), (.im true, []), ()) [112, 114, 111, 116, 111, 99, 111, 108] (by omega) (isB_of ⟨u0, b1, b2, .inl b3⟩) (by omega)
  have m2 := more_bad (m + 5) l (7 + 3 * N : Nat) (natI text.length) t.a ([], (.im true, []), (.im true, []), (.im true, []), ()) h.ka
  have f2 := t14_eq (m + 6) l (7 + 3 * N : Nat) (natI text.length) t.a ([], (.im true, []), (.im true, []), (.im true, []), ())
  rw [T_succ]
  show tt6 (T (m + 7)) (m + 7) _ _ = _
  unfold tt6
  change tRes _ (T (m + 7) 7 [.one (sC text)] []) _ = _
  rw [h7, res_tk]
  refine bif_f (by simp) ?_
  rw [l6_0_e0]
  unfold w6_0_0
  change tRes _ (T (m + 7) 8 [pE] [bx0 (pB l (0 : Nat) (natI text.length) (-1) ([], (.im true, []), (.im true, []), (.im true, []), ()))]) _ = _
  rw [m1, res_bp]
  change tRes _ (T (m + 7) 9 [pE, .one (sC [112, 114, 111, 116, 111, 99, 111, 108])] [bx0 (pB l (0 : Nat) (natI text.length) (-1) ([], (.im true, []), (.im true, []), (.im true, []), ()))]) _ = _
  rw [k1, res_bp]
  change tRes _ (T (m + 7) 10 [pE] [bx0 (pB l (1 : Nat) (natI text.length) (-1) ([], (.im true, []), (.im true, []), (.im true, []), ()))]) _ = _
  rw [hp, res_pr]
  refine bif_t (by rfl) ?_
  rw [l6_0_e0]
  unfold w6_0_0
  change tRes _ (T (m + 7) 8 [pE] [bx0 (pB l (7 + 3 * N : Nat) (natI text.length) t.a ([], (.im true, []), (.im true, []), (.im true, []), ()))]) _ = _
  rw [m2, res_bp]
  change tRes _ (T (m + 7) 14 [pE] [bx0 (pB l (7 + 3 * N : Nat) (natI text.length) t.a ([], (.im true, []), (.im true, []), (.im true, []), ()))]) _ = _
  rw [f2, res_bp, show decide (t.a ≥ 0) = true from decide_eq_true h.ka]
  rfl
end Go.Proofs.YtoefhpgdmkckiaaDoor
end
section
set_option maxRecDepth 100000
set_option maxHeartbeats 4000000
set_option linter.unusedVariables false
set_option linter.unusedSimpArgs false
namespace Go.Proofs.YtoefhpgdmkckiaaDoor
open Go Go.Abs

theorem qo_eq {β R : Type} {o : Option β} {x : β} {k : β → Option R} {z : Option R} (h : o = some x) (h2 : k x = z) : qOpt o k = z := by subst h; exact h2
theorem tr_b {o : OR} {b : Bool} {K : Bool × Unit → OR} {z : OR} (h : o = some (.one (bC b), [])) (h2 : K (b, ()) = z) : tRes (.val (.one .bool) []) o K = z := by subst h; exact h2
theorem tr_i {o : OR} {b : Int} {K : Int × Unit → OR} {z : OR} (h : o = some (.one (iC b), [])) (h2 : K (b, ()) = z) : tRes (.val (.one (.int .i64)) []) o K = z := by subst h; exact h2
theorem tr_s {o : OR} {b : BB} {K : BB × Unit → OR} {z : OR} (h : o = some (.one (sC b), [])) (h2 : K (b, ()) = z) : tRes (.val (.one .str) []) o K = z := by subst h; exact h2

def isLet (c : UInt8) : Bool := decide (97 ≤ c.toNat) && decide (c.toNat ≤ 122)
def isDig (c : UInt8) : Bool := decide (48 ≤ c.toNat) && decide (c.toNat ≤ 57)
def isWd (c : UInt8) : Bool := isLet c || isDig c
abbrev u8 (c : UInt8) : V := .one (.d (.int .u8 (natI c.toNat)))

theorem f19 (m : Nat) (c : UInt8) : T (m + 1) 19 [u8 c] [] = some (.one (bC (isLet c)), []) := by
  rw [T_succ]
  show tt19 (T m) m (natI c.toNat) = _
  unfold tt19 isLet
  rw [show decide (natI c.toNat ≥ 97) = decide (97 ≤ c.toNat) from decide_eq_decide.2 (by unfold natI; omega), show decide (natI c.toNat ≤ 122) = decide (c.toNat ≤ 122) from decide_eq_decide.2 (by unfold natI; omega)]
  cases decide (97 ≤ c.toNat) <;> rfl
theorem f15 (m : Nat) (c : UInt8) : T (m + 1) 15 [u8 c] [] = some (.one (bC (isDig c)), []) := by
  rw [T_succ]
  show tt15 (T m) m (natI c.toNat) = _
  unfold tt15 isDig
  rw [show decide (natI c.toNat ≥ 48) = decide (48 ≤ c.toNat) from decide_eq_decide.2 (by unfold natI; omega), show decide (natI c.toNat ≤ 57) = decide (c.toNat ≤ 57) from decide_eq_decide.2 (by unfold natI; omega)]
  cases decide (48 ≤ c.toNat) <;> rfl
theorem f20 (m : Nat) (c : UInt8) : T (m + 2) 20 [u8 c] [] = some (.one (bC (isWd c)), []) := by
  rw [T_succ]
  show tt20 (T (m + 1)) (m + 1) (natI c.toNat) = _
  unfold tt20 isWd
  refine tr_b (f19 m c) ?_
  cases isLet c with
  | true => rfl
  | false => exact tr_b (f15 m c) rfl

theorem get_at {tx A R : BB} {c : UInt8} (h : tx = A ++ c :: R) : tx[A.length]? = some c := by subst h; simp
theorem lt_at {tx A R : BB} {c : UInt8} (h : tx = A ++ c :: R) : decide ((A.length : Int) < natI tx.length) = true := by
  subst h; unfold natI; simp; omega
theorem end_at {tx A : BB} (h : tx = A) : decide ((A.length : Int) < natI tx.length) = false := by
  subst h; unfold natI; simp

/-- A run of letters and digits. -/
theorem run_wd (m n : Nat) (R tx : BB) (hR : R = [] ∨ ∃ c t, R = c :: t ∧ isWd c = false) (hl : tx.length < 100000) : ∀ (w A : BB) (r : Nat), tx = A ++ (w ++ R) → (∀ c ∈ w, isWd c = true) → w.length < r →
    l17x1_0 (T (m + 2)) n r (.s0 tx (A.length : Int)) = some (.one (iC ((A.length + w.length : Nat) : Int)), [])
  | [], A, r + 1, ht, hw, hr => by
    rw [l17x1_0_e0]
    unfold w17x1_0_0
    rcases hR with rfl | ⟨c, t, rfl, hc⟩
    · exact bif_f (end_at (by simpa using ht)) rfl
    · exact bif_t (lt_at ht) (qo_eq (asI_n _) (qo_eq (get_at ht) (tr_b (f20 m c) (bif_f hc rfl))))
  | c :: w, A, r + 1, ht, hw, hr => by
    have hA : A.length < 100000 := by
      have := congrArg List.length ht
      simp at this; omega
    rw [l17x1_0_e0]
    unfold w17x1_0_0
    refine bif_t (lt_at ht) (qo_eq (asI_n _) (qo_eq (get_at ht) (tr_b (f20 m c) (bif_t (hw c (List.mem_cons_self ..)) ?_))))
    rw [w_succ (by omega)]
    have ih := run_wd m n R tx hR hl w (A ++ [c]) r (by rw [ht]; simp) (fun d hd => hw d (List.mem_cons_of_mem _ hd)) (by simp at hr; omega)
    rw [show (A ++ [c]).length = A.length + 1 by simp] at ih
    rw [ih]
    simp; omega
/-- A run of digits. -/
theorem run_dig (m n : Nat) (R tx : BB) (hR : R = [] ∨ ∃ c t, R = c :: t ∧ isDig c = false) (hl : tx.length < 100000) : ∀ (w A : BB) (r : Nat), tx = A ++ (w ++ R) → (∀ c ∈ w, isDig c = true) → w.length < r →
    l17x2_0 (T (m + 2)) n r (.s0 tx (A.length : Int)) = some (.one (iC ((A.length + w.length : Nat) : Int)), [])
  | [], A, r + 1, ht, hw, hr => by
    rw [l17x2_0_e0]
    unfold w17x2_0_0
    rcases hR with rfl | ⟨c, t, rfl, hc⟩
    · exact bif_f (end_at (by simpa using ht)) rfl
    · exact bif_t (lt_at ht) (qo_eq (asI_n _) (qo_eq (get_at ht) (tr_b (f15 (m + 1) c) (bif_f hc rfl))))
  | c :: w, A, r + 1, ht, hw, hr => by
    have hA : A.length < 100000 := by
      have := congrArg List.length ht
      simp at this; omega
    rw [l17x2_0_e0]
    unfold w17x2_0_0
    refine bif_t (lt_at ht) (qo_eq (asI_n _) (qo_eq (get_at ht) (tr_b (f15 (m + 1) c) (bif_t (hw c (List.mem_cons_self ..)) ?_))))
    rw [w_succ (by omega)]
    have ih := run_dig m n R tx hR hl w (A ++ [c]) r (by rw [ht]; simp) (fun d hd => hw d (List.mem_cons_of_mem _ hd)) (by simp at hr; omega)
    rw [show (A ++ [c]).length = A.length + 1 by simp] at ih
    rw [ih]
    simp; omega
theorem f17w (m : Nat) (tx A w R : BB) (ht : tx = A ++ (w ++ R)) (hw : ∀ c ∈ w, isWd c = true) (hR : R = [] ∨ ∃ c t, R = c :: t ∧ isWd c = false) (hl : tx.length < 100000) (hm : w.length < m + 2) :
    T (m + 3) 17 [.one (sC tx), .one (iC (A.length : Int)), .one (.fn 20 [] [])] [] = some (.one (iC ((A.length + w.length : Nat) : Int)), []) := by
  rw [T_succ]
  exact run_wd m (m + 2) R tx hR hl w A (m + 2) ht hw hm
theorem f17d (m : Nat) (tx A w R : BB) (ht : tx = A ++ (w ++ R)) (hw : ∀ c ∈ w, isDig c = true) (hR : R = [] ∨ ∃ c t, R = c :: t ∧ isDig c = false) (hl : tx.length < 100000) (hm : w.length < m + 2) :
    T (m + 3) 17 [.one (sC tx), .one (iC (A.length : Int)), .one (.fn 15 [] [])] [] = some (.one (iC ((A.length + w.length : Nat) : Int)), []) := by
  rw [T_succ]
  exact run_dig m (m + 2) R tx hR hl w A (m + 2) ht hw hm
theorem cut {tx A w R : BB} (ht : tx = A ++ (w ++ R)) : List.take ((A.length + w.length) - A.length) (List.drop A.length tx) = w := by subst ht; simp
theorem cut_ok {tx A w R : BB} (ht : tx = A ++ (w ++ R)) : (decide (A.length ≤ A.length + w.length) && decide (A.length + w.length ≤ tx.length)) = true := by
  subst ht; simp
end Go.Proofs.YtoefhpgdmkckiaaDoor
end
section
set_option maxRecDepth 100000
set_option maxHeartbeats 4000000
set_option linter.unusedVariables false
set_option linter.unusedSimpArgs false
namespace Go.Proofs.YtoefhpgdmkckiaaDoor
open Go Go.Abs

def tk (k : Int) (w : BB) (a : Nat) : List D := [.int .i64 k, .str w, .int .i64 a]
theorem nb {c : UInt8} {k : Int} (h : (c.toNat : Int) ≠ k) : (natI c.toNat == k) = false := by
  unfold natI; simpa using h
theorem let_rng {c : UInt8} (h : isLet c = true) : 97 ≤ c.toNat ∧ c.toNat ≤ 122 := by
  unfold isLet at h; simpa using h
theorem dig_rng {c : UInt8} (h : isDig c = true) : 48 ≤ c.toNat ∧ c.toNat ≤ 57 := by
  unfold isDig at h; simpa using h
theorem let_wd {c : UInt8} (h : isLet c = true) : isWd c = true := by unfold isWd; rw [h]; rfl
theorem dig_let {c : UInt8} (h : isDig c = true) : isLet c = false := by
  have := dig_rng h
  unfold isLet; simp; omega
theorem guardA (L : RR) (h : L.length ≤ 100000) : (L.length == L.length && true && decide ((L.length + 1) * 32 ≤ 140737488355328)) = true := by
  rw [show decide ((L.length + 1) * 32 ≤ 140737488355328) = true from decide_eq_true (by omega)]; simp

theorem lx_blank (m n r : Nat) (tx A R : BB) (L : RR) (ht : tx = A ++ 32 :: R) (hl : tx.length < 100000) :
    l7_0 (T (m + 4)) n (r + 1) (.s1 tx L (A.length : Int)) = l7_0 (T (m + 4)) n r (.s1 tx L ((A.length + 1 : Nat) : Int)) := by
  have hA : A.length < 100000 := by
    have := congrArg List.length ht
    simp at this; omega
  rw [l7_0_e1]
  unfold w7_0_1
  refine bif_t (lt_at ht) (qo_eq (asI_n _) (qo_eq (get_at ht) (bif_f rfl (bif_t rfl ?_))))
  rw [w_succ (by omega)]

theorem lx_word (m n r : Nat) (tx A w R : BB) (c : UInt8) (L : RR) (ht : tx = A ++ ((c :: w) ++ R)) (hl : tx.length < 100000) (hc : isLet c = true) (hw : ∀ d ∈ w, isWd d = true)
    (hR : R = [] ∨ ∃ c t, R = c :: t ∧ isWd c = false) (hL : L.length ≤ 100000) (hm : w.length + 1 < m + 3) :
    l7_0 (T (m + 4)) n (r + 1) (.s1 tx L (A.length : Int)) = l7_0 (T (m + 4)) n r (.s1 tx (L ++ [tk 0 (c :: w) A.length]) ((A.length + (c :: w).length : Nat) : Int)) := by
  have ht' : tx = A ++ c :: (w ++ R) := by rw [ht]; simp
  obtain ⟨r1, r2⟩ := let_rng hc
  rw [l7_0_e1]
  unfold w7_0_1
  refine bif_t (lt_at ht') (qo_eq (asI_n _) (qo_eq (get_at ht') (bif_f (nb (by omega)) (bif_f (nb (by omega)) (bif_f (nb (by omega)) (bif_f (nb (by omega)) (bif_f (nb (by omega)) ?_)))))))
  refine tr_b (f19 (m + 3) c) (bif_t hc ?_)
  refine tr_i (f17w (m + 1) tx A (c :: w) R ht (fun d hd => by rcases List.mem_cons.1 hd with h | h; rw [h]; exact let_wd hc; exact hw d h) hR hl (by simp; omega)) ?_
  refine qo_eq (asI_n _) (qo_eq (asI_n _) (bif_t (cut_ok ht) (bif_t (guardA L hL) ?_)))
  rw [cut ht]
  rfl
theorem lx_word0 (m n r : Nat) (tx A w R : BB) (c : UInt8) (ht : tx = A ++ ((c :: w) ++ R)) (hl : tx.length < 100000) (hc : isLet c = true) (hw : ∀ d ∈ w, isWd d = true)
    (hR : R = [] ∨ ∃ c t, R = c :: t ∧ isWd c = false) (hm : w.length + 1 < m + 3) :
    l7_0 (T (m + 4)) n (r + 1) (.s0 tx true [] (A.length : Int)) = l7_0 (T (m + 4)) n r (.s1 tx [tk 0 (c :: w) A.length] ((A.length + (c :: w).length : Nat) : Int)) := by
  have ht' : tx = A ++ c :: (w ++ R) := by rw [ht]; simp
  obtain ⟨r1, r2⟩ := let_rng hc
  rw [l7_0_e0]
  unfold w7_0_0
  refine bif_t (lt_at ht') (qo_eq (asI_n _) (qo_eq (get_at ht') (bif_f (nb (by omega)) (bif_f (nb (by omega)) (bif_f (nb (by omega)) (bif_f (nb (by omega)) (bif_f (nb (by omega)) ?_)))))))
  refine tr_b (f19 (m + 3) c) (bif_t hc ?_)
  refine tr_i (f17w (m + 1) tx A (c :: w) R ht (fun d hd => by rcases List.mem_cons.1 hd with h | h; rw [h]; exact let_wd hc; exact hw d h) hR hl (by simp; omega)) ?_
  refine qo_eq (asI_n _) (qo_eq (asI_n _) (bif_t (cut_ok ht) (bif_t rfl ?_)))
  rw [cut ht]
  rfl

theorem lx_num (m n r : Nat) (tx A w R : BB) (c : UInt8) (L : RR) (ht : tx = A ++ ((c :: w) ++ R)) (hl : tx.length < 100000) (hc : isDig c = true) (hw : ∀ d ∈ w, isDig d = true)
    (hR : R = [] ∨ ∃ c t, R = c :: t ∧ isDig c = false) (hL : L.length ≤ 100000) (hm : w.length + 1 < m + 3) (h21 : T (m + 4) 21 [.one (sC (c :: w))] [] = some (.one (bC true), [])) :
    l7_0 (T (m + 4)) n (r + 1) (.s1 tx L (A.length : Int)) = l7_0 (T (m + 4)) n r (.s1 tx (L ++ [tk 1 (c :: w) A.length]) ((A.length + (c :: w).length : Nat) : Int)) := by
  have ht' : tx = A ++ c :: (w ++ R) := by rw [ht]; simp
  have ht2 : tx = (A ++ [c]) ++ (w ++ R) := by rw [ht]; simp
  obtain ⟨r1, r2⟩ := dig_rng hc
  have hA : A.length < 100000 := by
    have := congrArg List.length ht
    simp at this; omega
  rw [l7_0_e1]
  unfold w7_0_1
  refine bif_t (lt_at ht') (qo_eq (asI_n _) (qo_eq (get_at ht') (bif_f (nb (by omega)) (bif_f (nb (by omega)) (bif_f (nb (by omega)) (bif_f (nb (by omega)) (bif_f (nb (by omega)) ?_)))))))
  refine tr_b (f19 (m + 3) c) (bif_f (dig_let hc) ?_)
  refine tr_b (f15 (m + 3) c) (bif_t hc ?_)
  have h17 := f17d (m + 1) tx (A ++ [c]) w R ht2 hw hR hl (by omega)
  rw [show (A ++ [c]).length = A.length + 1 by simp, show A.length + 1 + w.length = A.length + (c :: w).length by simp; omega, ← w_succ (by omega)] at h17
  refine tr_i h17 ?_
  refine qo_eq (asI_n _) (qo_eq (asI_n _) (bif_t (cut_ok ht) ?_))
  rw [cut ht]
  refine tr_b h21 (bif_f rfl ?_)
  refine qo_eq (asI_n _) (qo_eq (asI_n _) (bif_t (cut_ok ht) (bif_t (guardA L hL) ?_)))
  rw [cut ht]
  rfl

def sgs : List UInt8 := [40, 41, 123, 125, 44, 59, 58]
theorem w_add2 {a : Nat} (h : a < 100000000) : w64 ((a : Int) + 2) = ((a + 2 : Nat) : Int) := by
  unfold w64
  rw [wrap_i64 (by omega) (by omega)]
  omega
theorem cut1 {tx A R : BB} {c : UInt8} (ht : tx = A ++ c :: R) : List.take ((A.length + 1) - A.length) (List.drop A.length tx) = [c] := by subst ht; simp
theorem cut1_ok {tx A R : BB} {c : UInt8} (ht : tx = A ++ c :: R) : (decide (A.length ≤ A.length + 1) && decide (A.length + 1 ≤ tx.length)) = true := by
  subst ht; simp
theorem f23 (m : Nat) (tx A R : BB) (c : UInt8) (ht : tx = A ++ c :: R) (hl : tx.length < 100000) (hc : c ∈ sgs) : T (m + 1) 23 [.one (sC tx), .one (iC (A.length : Int))] [] = some (.one (sC [c]), []) := by
  have hA : A.length < 100000 := by
    have := congrArg List.length ht
    simp at this; omega
  rw [T_succ]
  show tt23 (T m) m tx (A.length : Int) = _
  unfold tt23
  rw [w_succ (by omega), w_add2 (by omega)]
  cases R with
  | nil =>
    have hlen : tx.length = A.length + 1 := by subst ht; simp
    refine bif_f (by unfold natI; rw [hlen]; exact decide_eq_false (by omega)) ?_
    refine qo_eq (asI_n _) (qo_eq (get_at ht) ?_)
    simp only [sgs, List.mem_cons, List.not_mem_nil, or_false] at hc
    have fin : (qOpt (asI (A.length : Int)) fun o4 => qOpt (asI ((A.length + 1 : Nat) : Int)) fun o5 => (bif (decide (o4 ≤ o5) && decide (o5 ≤ tx.length)) then (some ((V.one (sC (List.take (o5 - o4) (List.drop o4 tx)))), ([] : List (List C)))) else none)) = some (.one (sC [c]), []) := by
      refine qo_eq (asI_n _) (qo_eq (asI_n _) (bif_t (cut1_ok ht) ?_))
      rw [cut1 ht]
    rcases hc with rfl | rfl | rfl | rfl | rfl | rfl | rfl
    · exact bif_t rfl fin
    · exact bif_f rfl (bif_t rfl fin)
    · exact bif_f rfl (bif_f rfl (bif_t rfl fin))
    · exact bif_f rfl (bif_f rfl (bif_f rfl (bif_t rfl fin)))
    · exact bif_f rfl (bif_f rfl (bif_f rfl (bif_f rfl (bif_t rfl fin))))
    · exact bif_f rfl (bif_f rfl (bif_f rfl (bif_f rfl (bif_f rfl (bif_t rfl fin)))))
    · exact bif_f rfl (bif_f rfl (bif_f rfl (bif_f rfl (bif_f rfl (bif_f rfl (bif_t rfl fin))))))
  | cons d R =>
    have hlen : tx.length = A.length + 2 + R.length := by subst ht; simp; omega
    have h2 : List.take ((A.length + 2) - A.length) (List.drop A.length tx) = [c, d] := by subst ht; simp
    refine bif_t (by unfold natI; rw [hlen]; exact decide_eq_true (by omega)) ?_
    refine qo_eq (asI_n _) (qo_eq (asI_n _) (bif_t (by rw [hlen]; simp) ?_))
    rw [h2]
    simp only [sgs, List.mem_cons, List.not_mem_nil, or_false] at hc
    have e1 : ([c, d] == [61, 61]) = false := by
      rcases hc with rfl | rfl | rfl | rfl | rfl | rfl | rfl <;> rfl
    have e2 : ([c, d] == [45, 62]) = false := by
      rcases hc with rfl | rfl | rfl | rfl | rfl | rfl | rfl <;> rfl
    refine bif_f e1 (bif_f e2 ?_)
    refine qo_eq (asI_n _) (qo_eq (get_at ht) ?_)
    have fin : (qOpt (asI (A.length : Int)) fun o4 => qOpt (asI ((A.length + 1 : Nat) : Int)) fun o5 => (bif (decide (o4 ≤ o5) && decide (o5 ≤ tx.length)) then (some ((V.one (sC (List.take (o5 - o4) (List.drop o4 tx)))), ([] : List (List C)))) else none)) = some (.one (sC [c]), []) := by
      refine qo_eq (asI_n _) (qo_eq (asI_n _) (bif_t (cut1_ok ht) ?_))
      rw [cut1 ht]
    rcases hc with rfl | rfl | rfl | rfl | rfl | rfl | rfl
    · exact bif_t rfl fin
    · exact bif_f rfl (bif_t rfl fin)
    · exact bif_f rfl (bif_f rfl (bif_t rfl fin))
    · exact bif_f rfl (bif_f rfl (bif_f rfl (bif_t rfl fin)))
    · exact bif_f rfl (bif_f rfl (bif_f rfl (bif_f rfl (bif_t rfl fin))))
    · exact bif_f rfl (bif_f rfl (bif_f rfl (bif_f rfl (bif_f rfl (bif_t rfl fin)))))
    · exact bif_f rfl (bif_f rfl (bif_f rfl (bif_f rfl (bif_f rfl (bif_f rfl (bif_t rfl fin))))))

theorem lx_sign (m n r : Nat) (tx A R : BB) (c : UInt8) (L : RR) (ht : tx = A ++ c :: R) (hl : tx.length < 100000) (hc : c ∈ sgs) (hL : L.length ≤ 100000) :
    l7_0 (T (m + 4)) n (r + 1) (.s1 tx L (A.length : Int)) = l7_0 (T (m + 4)) n r (.s1 tx (L ++ [tk 3 [c] A.length]) ((A.length + 1 : Nat) : Int)) := by
  have hA : A.length < 100000 := by
    have := congrArg List.length ht
    simp at this; omega
  have h23 := f23 (m + 3) tx A R c ht hl hc
  have f1 : isLet c = false := by
    simp only [sgs, List.mem_cons, List.not_mem_nil, or_false] at hc
    rcases hc with rfl | rfl | rfl | rfl | rfl | rfl | rfl <;> rfl
  have f2 : isDig c = false := by
    simp only [sgs, List.mem_cons, List.not_mem_nil, or_false] at hc
    rcases hc with rfl | rfl | rfl | rfl | rfl | rfl | rfl <;> rfl
  have rg : 40 ≤ c.toNat ∧ c.toNat ≠ 45 := by
    simp only [sgs, List.mem_cons, List.not_mem_nil, or_false] at hc
    rcases hc with rfl | rfl | rfl | rfl | rfl | rfl | rfl <;> decide
  obtain ⟨rg1, rg2⟩ := rg
  rw [l7_0_e1]
  unfold w7_0_1
  refine bif_t (lt_at ht) (qo_eq (asI_n _) (qo_eq (get_at ht) (bif_f (nb (by omega)) (bif_f (nb (by omega)) (bif_f (nb (by omega)) (bif_f (nb (by omega)) (bif_f (nb (by omega)) ?_)))))))
  refine tr_b (f19 (m + 3) c) (bif_f f1 ?_)
  refine tr_b (f15 (m + 3) c) (bif_f f2 (bif_f (nb (by omega)) ?_))
  refine tr_s h23 (bif_f rfl ?_)
  have hw : w64 ((A.length : Int) + natI ([c] : BB).length) = ((A.length + 1 : Nat) : Int) := w_succ (by omega)
  rw [hw]
  refine qo_eq (asI_n _) (qo_eq (asI_n _) (bif_t (cut1_ok ht) (bif_t (guardA L hL) ?_)))
  rw [cut1 ht]
  rfl
theorem lx_end (m n r : Nat) (tx : BB) (L : RR) :
    l7_0 (T (m + 4)) n (r + 1) (.s1 tx L (tx.length : Int)) = some (.tup [.one (lC (.im false) 3 (plainRs (whole L))), .one (iC 0), .one (iC 0)], []) := by
  rw [l7_0_e1]
  unfold w7_0_1
  exact bif_f (end_at rfl) (bif_t (by simp) rfl)
end Go.Proofs.YtoefhpgdmkckiaaDoor
end
section
set_option maxRecDepth 100000
set_option maxHeartbeats 4000000
set_option linter.unusedVariables false
set_option linter.unusedSimpArgs false
namespace Go.Proofs.YtoefhpgdmkckiaaDoor
open Go Go.Abs

inductive It where | wd (c : UInt8) (w : BB) | nu (c : UInt8) (w : BB) | sg (c : UInt8) | bl
def It.b : It → BB
  | .wd c w => c :: w
  | .nu c w => c :: w
  | .sg c => [c]
  | .bl => [32]
def flat : List It → BB
  | [] => []
  | x :: t => x.b ++ flat t
def toksOf : List It → Nat → List TK
  | [], _ => []
  | .wd c w :: t, a => ⟨0, c :: w, a⟩ :: toksOf t (a + (c :: w).length)
  | .nu c w :: t, a => ⟨1, c :: w, a⟩ :: toksOf t (a + (c :: w).length)
  | .sg c :: t, a => ⟨3, [c], a⟩ :: toksOf t (a + 1)
  | .bl :: t, a => toksOf t (a + 1)
def okI (m : Nat) : List It → Prop
  | [] => True
  | .wd c w :: t => isLet c = true ∧ (∀ d ∈ w, isWd d = true) ∧ w.length < 50 ∧ (flat t = [] ∨ ∃ c r, flat t = c :: r ∧ isWd c = false) ∧ okI m t
  | .nu c w :: t => isDig c = true ∧ (∀ d ∈ w, isDig d = true) ∧ w.length < 50 ∧ (flat t = [] ∨ ∃ c r, flat t = c :: r ∧ isDig c = false) ∧ T (m + 4) 21 [.one (sC (c :: w))] [] = some (.one (bC true), []) ∧ okI m t
  | .sg c :: t => c ∈ sgs ∧ okI m t
  | .bl :: t => okI m t

theorem lex_items (m n : Nat) (tx : BB) (hl : tx.length < 100000) (hm : 60 ≤ m) : ∀ (items : List It) (A : BB) (L : RR) (r : Nat), okI m items → tx = A ++ flat items → items.length < r → L.length + items.length ≤ 100000 →
    l7_0 (T (m + 4)) n r (.s1 tx L (A.length : Int)) = some (.tup [.one (lC (.im false) 3 (plainRs (whole (L ++ (toksOf items A.length).map cT)))), .one (iC 0), .one (iC 0)], [])
  | [], A, L, r + 1, ho, ht, hr, hL => by
    have ht' : tx = A := by rw [ht]; simp [flat]
    subst ht'
    rw [lx_end]
    simp [toksOf]
  | .bl :: t, A, L, r + 1, ho, ht, hr, hL => by
    rw [lx_blank m n r tx A (flat t) L ht hl]
    have ih := lex_items m n tx hl hm t (A ++ [32]) L r ho (by rw [ht]; simp [flat, It.b]) (by simp at hr; omega) (by simp at hL; omega)
    rw [show (A ++ [(32 : UInt8)]).length = A.length + 1 by simp] at ih
    exact ih
  | .sg c :: t, A, L, r + 1, ho, ht, hr, hL => by
    rw [lx_sign m n r tx A (flat t) c L ht hl ho.1 (by simp at hL; omega)]
    have ih := lex_items m n tx hl hm t (A ++ [c]) (L ++ [tk 3 [c] A.length]) r ho.2 (by rw [ht]; simp [flat, It.b]) (by simp at hr; omega) (by simp at hL ⊢; omega)
    rw [show (A ++ [c]).length = A.length + 1 by simp] at ih
    rw [ih]
    simp [toksOf, cT, tk]
  | .wd c w :: t, A, L, r + 1, ho, ht, hr, hL => by
    obtain ⟨h1, h2, h3, h4, h5⟩ := ho
    rw [lx_word m n r tx A w (flat t) c L ht hl h1 h2 h4 (by simp at hL; omega) (by omega)]
    have ih := lex_items m n tx hl hm t (A ++ (c :: w)) (L ++ [tk 0 (c :: w) A.length]) r h5 (by rw [ht]; simp [flat, It.b]) (by simp at hr; omega) (by simp at hL ⊢; omega)
    rw [show (A ++ (c :: w)).length = A.length + (c :: w).length by simp] at ih
    rw [ih]
    simp [toksOf, cT, tk]
  | .nu c w :: t, A, L, r + 1, ho, ht, hr, hL => by
    obtain ⟨h1, h2, h3, h4, h21, h5⟩ := ho
    rw [lx_num m n r tx A w (flat t) c L ht hl h1 h2 h4 (by simp at hL; omega) (by omega) h21]
    have ih := lex_items m n tx hl hm t (A ++ (c :: w)) (L ++ [tk 1 (c :: w) A.length]) r h5 (by rw [ht]; simp [flat, It.b]) (by simp at hr; omega) (by simp at hL ⊢; omega)
    rw [show (A ++ (c :: w)).length = A.length + (c :: w).length by simp] at ih
    rw [ih]
    simp [toksOf, cT, tk]

theorem plain_T : ∀ (l : List TK), plainRs (l.map cT) = l.map cT
  | [] => rfl
  | t :: l => by
    show plainR (cT t) :: plainRs (l.map cT) = _
    rw [plain_T l]; rfl
theorem whole_T (l : List TK) : plainRs (whole (l.map cT)) = l.map cT := by
  unfold whole
  rw [List.drop_zero, List.take_length, plain_T]

/-- A text of words, numbers, signs and blanks is split into them. -/
theorem lex_all (m : Nat) (c : UInt8) (w : BB) (t : List It) (hm : 60 ≤ m) (hm2 : m ≤ 10000) (ho : okI m (.wd c w :: t)) (hl : (flat (.wd c w :: t)).length ≤ 16384) (hr : t.length + 2 ≤ m + 4) :
    T (m + 5) 7 [.one (sC (flat (.wd c w :: t)))] [] = some (.tup [.one (lC (.im false) 3 ((toksOf (.wd c w :: t) 0).map cT)), .one (iC 0), .one (iC 0)], []) := by
  obtain ⟨h1, h2, h3, h4, h5⟩ := ho
  rw [T_succ]
  show tt7 (T (m + 4)) (m + 4) (l7_0 (T (m + 4)) (m + 4) (m + 4)) (flat (.wd c w :: t)) = _
  unfold tt7
  refine bif_f (by unfold natI; exact decide_eq_false (by omega)) ?_
  generalize htx : flat (.wd c w :: t) = tx at hl ⊢
  have ht : tx = [] ++ ((c :: w) ++ flat t) := htx.symm
  have h0 := lx_word0 m (m + 4) (m + 3) tx [] w (flat t) c ht (by omega) h1 h2 h4 (by omega)
  have h7 := lex_items m (m + 4) tx (by omega) hm t (c :: w) [tk 0 (c :: w) 0] (m + 3) h5 ht (by omega) (by simp; omega)
  have e0 : ((([] : BB).length : Nat) : Int) = 0 := rfl
  rw [e0] at h0
  rw [show (([] : BB).length + (c :: w).length) = (c :: w).length by simp] at h0
  refine h0.trans ?_
  rw [show ([] : BB).length = 0 from rfl, h7]
  have : ([tk 0 (c :: w) 0] ++ (toksOf t (c :: w).length).map cT) = (toksOf (.wd c w :: t) 0).map cT := by simp [toksOf, cT, tk]
  rw [this, whole_T]
end Go.Proofs.YtoefhpgdmkckiaaDoor
end
section
set_option maxRecDepth 1000000
set_option maxHeartbeats 4000000
set_option linter.unusedVariables false
set_option linter.unusedSimpArgs false
namespace Go.Proofs.YtoefhpgdmkckiaaDoor
open Go Go.Abs

/-- The digits of a number below 1000. -/
def ds (k : Nat) : UInt8 × BB :=
  if k < 10 then (UInt8.ofNat (48 + k), []) else if k < 100 then (UInt8.ofNat (48 + k / 10), [UInt8.ofNat (48 + k % 10)])
  else (UInt8.ofNat (48 + k / 100), [UInt8.ofNat (48 + k / 10 % 10), UInt8.ofNat (48 + k % 10)])
def dsb (k : Nat) : BB := (ds k).1 :: (ds k).2

def ck5 (k : Nat) : Bool := match T 200 5 [.one (iC (natI k))] [] with | some (.one (.d (.str s)), []) => s == dsb k | _ => false
def ck21 (k : Nat) : Bool := match T 198 21 [.one (sC (dsb k))] [] with | some (.one (.d (.bool true)), []) => true | _ => false
def ck37 (k : Nat) : Bool := match T 197 37 [.one (sC (dsb k))] [] with | some (.tup [.one (.d (.int .i64 n)), .one .nili], []) => n == natI k | _ => false
def ckd (k : Nat) : Bool := isDig (ds k).1 && (ds k).2.all isDig && decide ((ds k).2.length < 50)
theorem all5 : (List.range 1000).all ck5 = true := by kernel_rfl
theorem all21 : (List.range 1000).all ck21 = true := by kernel_rfl
theorem all37 : (List.range 1000).all ck37 = true := by kernel_rfl
theorem alld : (List.range 1000).all ckd = true := by kernel_rfl
theorem e5 {k : Nat} (h : k < 1000) : T 200 5 [.one (iC (natI k))] [] = some (.one (sC (dsb k)), []) := by
  have := List.all_eq_true.1 all5 k (List.mem_range.2 h)
  unfold ck5 at this
  split at this
  · rename_i s hs; rw [hs, show s = dsb k from by simpa using this]
  · cases this
theorem e21 {k : Nat} (h : k < 1000) : T 198 21 [.one (sC (dsb k))] [] = some (.one (bC true), []) := by
  have := List.all_eq_true.1 all21 k (List.mem_range.2 h)
  unfold ck21 at this
  split at this
  · assumption
  · cases this
theorem e37 {k : Nat} (h : k < 1000) : T 197 37 [.one (sC (dsb k))] [] = some (.tup [.one (iC (natI k)), .one .nili], []) := by
  have := List.all_eq_true.1 all37 k (List.mem_range.2 h)
  unfold ck37 at this
  split at this
  · rename_i n hs; rw [hs, show n = natI k from by simpa using this]
  · cases this
theorem ed {k : Nat} (h : k < 1000) : isDig (ds k).1 = true ∧ (∀ d ∈ (ds k).2, isDig d = true) ∧ (ds k).2.length < 50 := by
  have := List.all_eq_true.1 alld k (List.mem_range.2 h)
  unfold ckd at this
  simp only [Bool.and_eq_true, List.all_eq_true, decide_eq_true_eq] at this
  exact ⟨this.1.1, this.1.2, this.2⟩
theorem e41 : ∀ c ∈ [(112 : UInt8), 97, 98], T 196 41 [.one (sC [c])] [] = some (.one (bC true), []) := by
  intro c hc
  simp only [List.mem_cons, List.not_mem_nil, or_false] at hc
  rcases hc with rfl | rfl | rfl <;> kernel_rfl
def ckf (n : Nat) : Bool := match l3_0 (T 200) 200 200 (.s0 (natI n) (natI n) [112, 114, 111, 116, 111, 99, 111, 108, 32, 112, 32, 114, 111, 108, 101, 115, 32, 97, 44, 32, 98, 32, 123, 32] 0) with | some (.one (.d (.bool true)), []) => true | _ => false
theorem allf : (List.range 12).all ckf = true := by kernel_rfl
theorem first_ok : T 200 4 [] [] = some (.one (bC true), []) := by kernel_rfl
end Go.Proofs.YtoefhpgdmkckiaaDoor
end
section
set_option maxRecDepth 100000
set_option maxHeartbeats 4000000
set_option linter.unusedVariables false
set_option linter.unusedSimpArgs false
namespace Go.Proofs.YtoefhpgdmkckiaaDoor
open Go Go.Abs

def itPt (k : Nat) : List It := [.nu (ds k).1 (ds k).2, .sg 58, .bl, .wd 101 [110, 100], .bl]
def itHead : List It := [.bl, .wd 112 [], .bl, .wd 114 [111, 108, 101, 115], .bl, .wd 97 [], .sg 44, .bl, .wd 98 [], .bl, .sg 123, .bl]
def itTail : List It := [.sg 125, .bl, .wd 112 [114, 111, 99], .bl, .wd 109 [97, 105, 110], .sg 40, .sg 41, .bl, .sg 123, .bl, .wd 115 [116, 111, 112], .bl, .sg 125]
def itPts (N : Nat) : List It := (List.range N).flatMap itPt
def pre : BB := [112, 114, 111, 116, 111, 99, 111, 108, 32, 112, 32, 114, 111, 108, 101, 115, 32, 97, 44, 32, 98, 32, 123, 32]
def txt (N : Nat) : BB := pre ++ flat (itPts N)
abbrev W : It := .wd 112 [114, 111, 116, 111, 99, 111, 108]

theorem itPts_succ (N : Nat) : itPts (N + 1) = itPts N ++ itPt N := by
  unfold itPts; rw [List.range_succ, List.flatMap_append]; simp
theorem flat_app : ∀ (a b : List It), flat (a ++ b) = flat a ++ flat b
  | [], b => rfl
  | x :: t, b => by simp only [List.cons_append, flat, flat_app t b, List.append_assoc]
theorem flat_pt (k : Nat) : flat (itPt k) = dsb k ++ [58, 32, 101, 110, 100, 32] := by
  simp [itPt, flat, It.b, dsb]
theorem txt_succ (N : Nat) : txt (N + 1) = txt N ++ dsb N ++ [58, 32, 101, 110, 100, 32] := by
  unfold txt; rw [itPts_succ, flat_app, flat_pt]; simp
theorem toks_app : ∀ (a b : List It) (p : Nat), toksOf (a ++ b) p = toksOf a p ++ toksOf b (p + (flat a).length)
  | [], b, p => by simp [toksOf, flat]
  | .wd c w :: t, b, p => by simp [toksOf, flat, It.b, toks_app t b]; congr 1; omega
  | .nu c w :: t, b, p => by simp [toksOf, flat, It.b, toks_app t b]; congr 1; omega
  | .sg c :: t, b, p => by simp [toksOf, flat, It.b, toks_app t b]; congr 1; omega
  | .bl :: t, b, p => by simp [toksOf, flat, It.b, toks_app t b]; congr 1; omega
theorem flat_head (N : Nat) : flat (W :: (itHead ++ itPts N)) = txt N := by
  show flat (W :: itHead ++ itPts N) = _
  rw [flat_app]; rfl
def LT (N : Nat) : List TK := toksOf (W :: (itHead ++ itPts N)) 0
theorem LT_succ (N : Nat) : LT (N + 1) = LT N ++ toksOf (itPt N) (txt N).length := by
  unfold LT
  rw [itPts_succ]
  rw [show W :: (itHead ++ (itPts N ++ itPt N)) = (W :: (itHead ++ itPts N)) ++ itPt N by simp, toks_app, flat_head, Nat.zero_add]
theorem toks_pt (k p : Nat) : toksOf (itPt k) p = [⟨1, dsb k, p⟩, ⟨3, [58], (p + (dsb k).length : Nat)⟩, ⟨0, [101, 110, 100], (p + (dsb k).length + 2 : Nat)⟩] := by
  simp [itPt, toksOf, dsb]
  try omega
theorem LT_len : ∀ (N : Nat), (LT N).length = 7 + 3 * N
  | 0 => rfl
  | N + 1 => by rw [LT_succ, List.length_append, LT_len N, toks_pt]; simp; omega
theorem LT_head : ∀ (N : Nat), ∃ Y, LT N = LT 0 ++ Y
  | 0 => ⟨[], by simp⟩
  | N + 1 => by obtain ⟨Y, h⟩ := LT_head N; exact ⟨Y ++ toksOf (itPt N) (txt N).length, by rw [LT_succ, h]; simp⟩
theorem LT_pt : ∀ (N i : Nat), i < N → ∃ p p1 p2 : Int, (LT N)[7 + 3 * i]? = some ⟨1, dsb i, p⟩ ∧ (LT N)[7 + 3 * i + 1]? = some ⟨3, [58], p1⟩ ∧ (LT N)[7 + 3 * i + 2]? = some ⟨0, [101, 110, 100], p2⟩
  | N + 1, i, h => by
    have hl := LT_len N
    rw [LT_succ, toks_pt]
    by_cases hi : i < N
    · obtain ⟨p, p1, p2, h1, h2, h3⟩ := LT_pt N i hi
      refine ⟨p, p1, p2, ?_, ?_, ?_⟩
      · rw [List.getElem?_append_left (by omega)]; exact h1
      · rw [List.getElem?_append_left (by omega)]; exact h2
      · rw [List.getElem?_append_left (by omega)]; exact h3
    · have : i = N := by omega
      subst this
      refine ⟨((txt i).length : Nat), ((txt i).length + (dsb i).length : Nat), ((txt i).length + (dsb i).length + 2 : Nat), ?_, ?_, ?_⟩
      · rw [List.getElem?_append_right (by omega), hl, Nat.sub_self]; rfl
      · rw [List.getElem?_append_right (by omega), hl, show 7 + 3 * i + 1 - (7 + 3 * i) = 1 by omega]; rfl
      · rw [List.getElem?_append_right (by omega), hl, show 7 + 3 * i + 2 - (7 + 3 * i) = 2 by omega]; rfl

theorem ok_pt {m k : Nat} {R : List It} (hk : k < 1000) (h21 : T (m + 4) 21 [.one (sC (dsb k))] [] = some (.one (bC true), [])) (h : okI m R) : okI m (itPt k ++ R) := by
  obtain ⟨h1, h2, h3⟩ := ed hk
  exact ⟨h1, h2, h3, .inr ⟨58, _, rfl, rfl⟩, h21, by simp [sgs], by decide, by decide, by decide, .inr ⟨32, _, rfl, rfl⟩, h⟩
theorem ok_pts {m : Nat} (h21 : ∀ k < 1000, T (m + 4) 21 [.one (sC (dsb k))] [] = some (.one (bC true), [])) : ∀ (N : Nat) (R : List It), N < 1000 → okI m R → okI m (itPts N ++ R)
  | 0, R, _, h => h
  | N + 1, R, hN, h => by
    rw [itPts_succ, List.append_assoc]
    exact ok_pts h21 N _ (by omega) (ok_pt (by omega) (h21 N (by omega)) h)
theorem ok_tail (m : Nat) : okI m itTail := by
  refine ⟨by simp [sgs], by decide, by decide, by decide, .inr ⟨32, _, rfl, rfl⟩, by decide, by decide, by decide, .inr ⟨40, _, rfl, rfl⟩, by simp [sgs], by simp [sgs], by simp [sgs], by decide, by decide, by decide, .inr ⟨32, _, rfl, rfl⟩, by simp [sgs], trivial⟩
theorem ok_head {m : Nat} {R : List It} (h : okI m R) : okI m (W :: (itHead ++ R)) := by
  exact ⟨by decide, by decide, by decide, .inr ⟨32, _, rfl, rfl⟩, by decide, by decide, by decide, .inr ⟨32, _, rfl, rfl⟩, by decide, by decide, by decide, .inr ⟨32, _, rfl, rfl⟩, by decide, by decide, by decide, .inr ⟨44, _, rfl, rfl⟩, by simp [sgs],
    by decide, by decide, by decide, .inr ⟨32, _, rfl, rfl⟩, by simp [sgs], h⟩
theorem len_dsb {k : Nat} (h : k < 1000) : (dsb k).length ≤ 3 := by
  unfold dsb ds; split <;> (try split) <;> simp
theorem txt_len : ∀ (N : Nat), N ≤ 900 → (txt N).length ≤ 24 + 9 * N
  | 0, _ => by decide
  | N + 1, h => by
    have := txt_len N (by omega)
    have := len_dsb (k := N) (by omega)
    rw [txt_succ]; simp; omega
theorem pts_len : ∀ (N : Nat), (itPts N).length = 5 * N
  | 0 => rfl
  | N + 1 => by rw [itPts_succ, List.length_append, pts_len N]; simp [itPt]; omega

def tail : BB := [58, 32, 101, 110, 100, 32, 125, 32, 112, 114, 111, 99, 32, 109, 97, 105, 110, 40, 41, 32, 123, 32, 115, 116, 111, 112, 32, 125]
/-- Another number than the one that is due: rejected there. -/
theorem prog_other {N k : Nat} (hN : N < 12) (hk : k < 1000) (hne : k ≠ N) :
    T 200 6 [.one (sC (txt N ++ dsb k ++ tail))] [] = some (.tup [.agg [lC (.im true) 3 [], lC (.im true) 2 [], lC (.im true) 4 []], .one (iC (natI (txt N).length)), .one (iC 1701)], []) := by
  have hall : W :: (itHead ++ (itPts N ++ (itPt k ++ itTail))) = (W :: (itHead ++ itPts N)) ++ (itPt k ++ itTail) := by simp
  have hflat : flat (W :: (itHead ++ (itPts N ++ (itPt k ++ itTail)))) = txt N ++ dsb k ++ tail := by
    rw [hall, flat_app, flat_head, flat_app, flat_pt]
    simp [tail, itTail, flat, It.b]
  have hlen := txt_len N (by omega)
  have hd := len_dsb hk
  have hpl := pts_len N
  have h7 := lex_all 194 112 [114, 111, 116, 111, 99, 111, 108] (itHead ++ (itPts N ++ (itPt k ++ itTail))) (by omega) (by omega)
    (ok_head (ok_pts (m := 194) (fun k hk => e21 hk) N _ (by omega) (ok_pt hk (e21 hk) (ok_tail 194))))
    (by rw [hflat]; simp [tail]; omega) (by simp [itHead, itPt, itTail, hpl]; omega)
  rw [hflat] at h7
  have htoks : toksOf (W :: (itHead ++ (itPts N ++ (itPt k ++ itTail)))) 0 = LT N ++ (⟨1, dsb k, ((txt N).length : Nat)⟩ :: (⟨3, [58], ((txt N).length + (dsb k).length : Nat)⟩ :: ⟨0, [101, 110, 100], ((txt N).length + (dsb k).length + 2 : Nat)⟩ :: toksOf itTail ((txt N).length + (flat (itPt k)).length))) := by
    rw [hall, toks_app, flat_head, toks_app, toks_pt, Nat.zero_add]
    rfl
  rw [htoks] at h7
  have hl := LT_len N
  obtain ⟨Y, hY⟩ := LT_head N
  have h0 : ∀ (j : Nat) (u : TK), (LT 0)[j]? = some u → ∀ X : List TK, (LT N ++ X)[j]? = some u := by
    intro j u hj X
    have hlt : j < (LT 0).length := (List.getElem?_eq_some_iff.1 hj).1
    rw [hY, List.append_assoc, List.getElem?_append_left hlt]
    exact hj
  have hT : Toks (LT N ++ (⟨1, dsb k, ((txt N).length : Nat)⟩ :: (⟨3, [58], ((txt N).length + (dsb k).length : Nat)⟩ :: ⟨0, [101, 110, 100], ((txt N).length + (dsb k).length + 2 : Nat)⟩ :: toksOf itTail ((txt N).length + (flat (itPt k)).length)))) N ⟨1, dsb k, ((txt N).length : Nat)⟩ (natI k) 192 := by
    refine ⟨⟨_, h0 0 _ rfl _, rfl, rfl⟩, ⟨_, h0 1 _ rfl _, rfl, rfl⟩, ⟨_, h0 2 _ rfl _, rfl, rfl⟩, ⟨_, h0 3 _ rfl _, rfl, rfl⟩, ⟨_, h0 4 _ rfl _, rfl, rfl⟩, ⟨_, h0 5 _ rfl _, rfl, rfl⟩, ⟨_, h0 6 _ rfl _, rfl, rfl⟩, ?_, ?_, rfl, by simp, e37 hk, ⟨by unfold natI; omega, by unfold natI; omega, by unfold natI; omega⟩, by omega, e41⟩
    · intro i hi
      obtain ⟨p, p1, p2, g1, g2, g3⟩ := LT_pt N i hi
      refine ⟨⟨⟨1, dsb i, p⟩, ?_, rfl, e37 (by omega)⟩, ⟨⟨3, [58], p1⟩, ?_, rfl, rfl⟩, ⟨⟨0, [101, 110, 100], p2⟩, ?_, rfl, rfl⟩⟩
      · rw [List.getElem?_append_left (by omega)]; exact g1
      · rw [List.getElem?_append_left (by omega)]; exact g2
      · rw [List.getElem?_append_left (by omega)]; exact g3
    · rw [List.getElem?_append_right (by omega), hl, Nat.sub_self]; rfl
  exact prog_no hT (by omega) _ h7

theorem loop {N k : Nat} (hN : N < 12) : ∀ (j i r : Nat), i + j = N →
    l3_0 (T 200) 200 (r + j) (.s0 (natI N) (natI k) (txt i) (natI i)) = l3_0 (T 200) 200 r (.s0 (natI N) (natI k) (txt N) (natI N))
  | 0, i, r, h => by
    have hiN : i = N := by omega
    subst hiN
    rfl
  | j + 1, i, r, h => by
    have hlen := txt_len i (by omega)
    have hd := len_dsb (k := i) (by omega)
    rw [show r + (j + 1) = (r + j) + 1 by omega, l3_0_e0]
    unfold w3_0_0
    refine bif_t (decide_eq_true (by unfold natI; omega)) (tr_s (e5 (by omega)) (bif_t (decide_eq_true (by simp; omega)) (bif_t (decide_eq_true (by simp; omega)) ?_)))
    rw [show w64 (natI i + 1) = natI (i + 1) from w_succ (by omega)]
    have := loop (k := k) hN j (i + 1) r (by omega)
    rw [txt_succ] at this
    exact this
theorem law_nat {N k : Nat} (hN : N < 12) (hk : k < 1000) : l3_0 (T 200) 200 200 (.s0 (natI N) (natI k) pre 0) = some (.one (bC true), []) := by
  by_cases hne : k = N
  · subst hne
    have := List.all_eq_true.1 allf k (List.mem_range.2 hN)
    unfold ckf at this
    split at this
    · assumption
    · cases this
  · have h := loop (k := k) hN N 0 (200 - N) (by omega)
    rw [show 200 - N + N = 200 by omega] at h
    have e0 : txt 0 = pre := by unfold txt; simp [itPts, flat]
    rw [e0] at h
    refine Eq.trans h ?_
    obtain ⟨r, hr⟩ : ∃ r, 200 - N = r + 1 := ⟨199 - N, by omega⟩
    have hlen := txt_len N (by omega)
    have hd := len_dsb hk
    rw [hr, l3_0_e0]
    unfold w3_0_0
    refine bif_f (decide_eq_false (by omega)) (tr_s (e5 hk) (bif_t (decide_eq_true (by simp; omega)) (bif_t (decide_eq_true (by simp; omega)) ?_)))
    have hp := prog_other hN hk hne
    change tRes _ (T 200 6 [.one (sC (txt N ++ dsb k ++ tail))] []) _ = _
    rw [hp]
    change (bif natI k == natI N then _ else (bif (1701 : Int) == 1701 then (bif natI (txt N).length == natI (txt N).length then _ else _) else _)) = _
    refine bif_f (by unfold natI; simp; omega) (bif_t rfl (bif_t (by simp) rfl))

theorem law (x y : Int) : T 201 3 [.one (iC x), .one (iC y)] [] = some (.one (bC true), []) := by
  have u0 : ∀ z : Int, 0 ≤ wu64 z := fun z => Int.emod_nonneg _ (by decide)
  have hx1 : 0 ≤ (wu64 x).tmod 12 := Int.tmod_nonneg _ (u0 x)
  have hx2 : (wu64 x).tmod 12 < 12 := Int.tmod_lt_of_pos _ (by decide)
  have hy1 : 0 ≤ (wu64 y).tmod 1000 := Int.tmod_nonneg _ (u0 y)
  have hy2 : (wu64 y).tmod 1000 < 1000 := Int.tmod_lt_of_pos _ (by decide)
  rw [T_succ]
  show tt3 (T 200) 200 (l3_0 (T 200) 200 200) x y = _
  unfold tt3
  refine tr_b first_ok (bif_f rfl ?_)
  have ex : w64 ((wu64 x).tmod 12) = natI ((wu64 x).tmod 12).toNat := by
    unfold w64 natI; rw [wrap_i64 (by omega) (by omega)]; omega
  have ey : w64 ((wu64 y).tmod 1000) = natI ((wu64 y).tmod 1000).toNat := by
    unfold w64 natI; rw [wrap_i64 (by omega) (by omega)]; omega
  rw [ex, ey]
  exact law_nat (by omega) (by omega)
end Go.Proofs.YtoefhpgdmkckiaaDoor
end
