/- What the functions that the law reaches answer, in plain data. -/
import Derived.Test.YteaaelhndaijoaaDoorPlain0
set_option maxRecDepth 100000
set_option maxHeartbeats 1000000
set_option linter.unusedVariables false
set_option linter.unusedSimpArgs false
namespace Go.Proofs.YteaaelhndaijoaaDoor
section
open Go Go.Abs PT
theorem tRow_row {R : Type} (k : Int) (nm : BB) (n : Int) (tx : BB) (x y : Int) (K : RowT sh10 → Option R) : tRow sh10 (List.take 6 (row k nm n tx x y)) K = K (k, nm, n, tx, x, y, ()) := rfl
theorem g63_t {R : Type} {n : Nat} {x : Option R} (h : n ≤ 9223372036854775807) : g63 n x = x := by unfold g63; rw [decide_eq_true h]; rfl
theorem TT.at_nat {l : RR} : ∀ {t : TT} {i : Int}, t.at_ l i → ∃ j : Nat, i = j
  | .lf .., _, ⟨j, h, _⟩ => ⟨j, h⟩
  | .un .., _, ⟨j, _, h, _⟩ => ⟨j, h⟩
  | .bi .., _, ⟨j, _, _, h, _⟩ => ⟨j, h⟩
theorem sgn_len (k : Int) : (sgn k).length ≤ 3 := by
  unfold sgn
  repeat' split
  all_goals decide
theorem cll_len (k : Int) : (cll k).length ≤ 4 := by
  unfold cll
  repeat' split
  all_goals decide
theorem sgn_infx {k : Int} (h : infx k = true) : (sgn k == []) = false := by
  unfold infx at h; simp only [Bool.and_eq_true, decide_eq_true_eq] at h
  have : k = 6 ∨ k = 7 ∨ k = 8 ∨ k = 9 ∨ k = 10 ∨ k = 11 ∨ k = 12 ∨ k = 13 ∨ k = 14 := by omega
  rcases this with rfl | rfl | rfl | rfl | rfl | rfl | rfl | rfl | rfl <;> rfl
section
variable (x0 : Bool) (l : RR)
theorem put_tree : ∀ (t : TT), okT t → ∀ (i : Int), t.at_ l i → ∃ c, ∀ n, c ≤ n → ∀ b : BB, b.length + (txtOf t).length ≤ 1000000 →
    T n 19 [pE, .one (lC (.im x0) 6 l), .one (iC i)] [bx sh5 (bB b)] = some (.tup [], [bx sh5 (bB (b ++ txtOf t))])
  | .lf k nm z tx, h, i, ⟨j, hi, hr⟩ => by
    refine ⟨60, fun n hn b hb => ?_⟩
    obtain ⟨m, rfl⟩ : ∃ m, n = m + 60 := ⟨n - 60, by omega⟩
    rw [eqq_]
    unfold tqq_
    rw [qO_asI _ hi, qO _ hr]
    refine (gd_t rfl).trans ?_
    rw [tRow_row]
    dsimp only
    rw [bif_t (decide_eq_true (show (-1 : Int) < 0 by omega)), leafT (m + 59) (by omega) h, res_s]
    dsimp only
    rw [write' (m + 59) (by omega) _ _ hb, res_bld]
    rfl
  | .un k a, h, i, ⟨j, x, hi, hr, ha⟩ => by
    obtain ⟨c, ih⟩ := put_tree a h.2 x ha
    obtain ⟨jx, hx⟩ := (TT.at_nat ha)
    have hx0 : ¬ x < 0 := by omega
    refine ⟨c + 60, fun n hn b hb => ?_⟩
    obtain ⟨m, rfl⟩ : ∃ m, n = m + 60 := ⟨n - 60, by omega⟩
    rw [eqq_]
    unfold tqq_
    rw [qO_asI _ hi, qO _ hr]
    refine (gd_t rfl).trans ?_
    rw [tRow_row]
    dsimp only
    rw [bif_f (decide_eq_false hx0)]
    rcases h.1 with rfl | rfl
    · have e : txtOf (.un 15 a) = [40, 110, 111, 116, 32] ++ txtOf a ++ [41] := rfl
      rw [e] at hb ⊢
      simp only [List.length_append, List.length_cons, List.length_nil] at hb
      rw [bif_t (by decide), write' (m + 59) (by omega) _ _ (by simp; omega), res_bld]
      dsimp only
      rw [bif_t rfl, ih (m + 59) (by omega) _ (by simp; omega), res_bup]
      dsimp only
      rw [write' (m + 59) (by omega) _ _ (by simp; omega), res_bld]
      dsimp only
      rw [bif_t rfl]
      simp only [List.append_assoc]
    · have e : txtOf (.un 16 a) = [108, 101, 110, 40] ++ txtOf a ++ [41] := rfl
      rw [e] at hb ⊢
      simp only [List.length_append, List.length_cons, List.length_nil] at hb
      rw [bif_f (by decide), psign' (m + 59) (by omega), res_s]
      dsimp only
      rw [bif_f (by decide), pcall' (m + 59) (by omega), res_s]
      dsimp only
      refine (g63_t (by have := cll_len 16; omega)).trans ?_
      rw [show cll 16 ++ [40] = [108, 101, 110, 40] from rfl, write' (m + 59) (by omega) _ _ (by simp; omega), res_bld]
      dsimp only
      rw [bif_t rfl, ih (m + 59) (by omega) _ (by simp; omega), res_bup]
      dsimp only
      rw [bif_f (decide_eq_false (show ¬ (-1 : Int) ≥ 0 by omega)), write' (m + 59) (by omega) _ _ (by simp; omega), res_bld]
      dsimp only
      rw [bif_t rfl]
      simp only [List.append_assoc]
  | .bi k a a', h, i, ⟨j, x, y, hi, hr, ha, ha'⟩ => by
    obtain ⟨c, ih⟩ := put_tree a h.2.1 x ha
    obtain ⟨c', ih'⟩ := put_tree a' h.2.2 y ha'
    obtain ⟨jx, hx⟩ := (TT.at_nat ha)
    obtain ⟨jy, hy⟩ := (TT.at_nat ha')
    have hx0 : ¬ x < 0 := by omega
    have hy0 : y ≥ 0 := by omega
    refine ⟨c + c' + 60, fun n hn b hb => ?_⟩
    obtain ⟨m, rfl⟩ : ∃ m, n = m + 60 := ⟨n - 60, by omega⟩
    have hk15 : k ≠ 15 := by
      rintro rfl
      rcases h.1 with h | h | h | h
      · exact absurd h (by decide)
      · cases h
      · cases h
      · cases h
    rw [eqq_]
    unfold tqq_
    rw [qO_asI _ hi, qO _ hr]
    refine (gd_t rfl).trans ?_
    rw [tRow_row]
    dsimp only
    rw [bif_f (decide_eq_false hx0), bif_beq_f hk15, psign' (m + 59) (by omega), res_s]
    dsimp only
    by_cases hk : infx k = true
    · have e : txtOf (.bi k a a') = [40] ++ txtOf a ++ ([32] ++ sgn k ++ [32]) ++ txtOf a' ++ [41] := by simp only [txtOf, hk, if_true]
      rw [e] at hb ⊢
      have hs := sgn_len k
      simp only [List.length_append, List.length_cons, List.length_nil] at hb
      rw [bif_t (by rw [sgn_infx hk]; rfl), write' (m + 59) (by omega) _ _ (by simp; omega), res_bld]
      dsimp only
      rw [bif_t rfl, ih (m + 59) (by omega) _ (by simp; omega), res_bup]
      dsimp only
      refine (gd_t (decide_eq_true (show 1 + (sgn k).length ≤ 9223372036854775807 by omega))).trans ?_
      refine (g63_t (show ([32] ++ sgn k : BB).length + 1 ≤ 9223372036854775807 by simp; omega)).trans ?_
      rw [write' (m + 59) (by omega) _ _ (by simp; omega), res_bld]
      dsimp only
      rw [bif_t rfl, ih' (m + 59) (by omega) _ (by simp; omega), res_bup]
      dsimp only
      rw [write' (m + 59) (by omega) _ _ (by simp; omega), res_bld]
      dsimp only
      rw [bif_t rfl]
      simp only [List.append_assoc]
    · have e : txtOf (.bi k a a') = (cll k ++ [40]) ++ txtOf a ++ [44, 32] ++ txtOf a' ++ [41] := by simp only [txtOf, hk, if_false]; rfl
      have hk' : k = 17 ∨ k = 18 ∨ k = 19 := by rcases h.1 with h | h; exact absurd h hk; exact h
      have hsg : sgn k = [] := by rcases hk' with rfl | rfl | rfl <;> rfl
      rw [e] at hb ⊢
      have hs := cll_len k
      simp only [List.length_append, List.length_cons, List.length_nil] at hb
      rw [hsg, bif_f (by decide), pcall' (m + 59) (by omega), res_s]
      dsimp only
      refine (g63_t (by omega)).trans ?_
      rw [write' (m + 59) (by omega) _ _ (by simp; omega), res_bld]
      dsimp only
      rw [bif_t rfl, ih (m + 59) (by omega) _ (by simp; omega), res_bup]
      dsimp only
      rw [bif_t (decide_eq_true hy0), write' (m + 59) (by omega) _ _ (by simp; omega), res_bld]
      dsimp only
      rw [bif_t rfl, ih' (m + 59) (by omega) _ (by simp; omega), res_bup]
      dsimp only
      rw [write' (m + 59) (by omega) _ _ (by simp; omega), res_bld]
      dsimp only
      rw [bif_t rfl]
      simp only [List.append_assoc]
theorem sgd (b : BB) (hb : b ≠ []) (hl : b.length ≤ 1000000) : ((D.strB b).length == (D.strB b).length && !((D.strB b).length == 0) && decide ((D.strB b).length ≤ 140737488355328)) = true := by
  rw [strB_len, beq_self_eq_true, decide_eq_true (by omega)]
  cases b with
  | nil => exact absurd rfl hb
  | cons => rfl
theorem string' (n : Nat) (hn : 1 ≤ n) (b : BB) (hb : b ≠ []) (hl : b.length ≤ 1000000) : T n 20 [pE] [bx sh5 (bB b)] = some (.one (sC b), [bx sh6 ((), (), ())]) := by
  obtain ⟨m, rfl⟩ := Nat.exists_eq_add_of_le' hn
  rw [eq10_]
  unfold tq10_
  cases b with
  | nil => exact absurd rfl hb
  | cons c r =>
    dsimp only [tgB, tagI]
    have h0 : ((D.strB (c :: r)).length == 0) = false := by rw [strB_len]; rfl
    refine (gd_t (by rw [h0]; rfl)).trans ?_
    refine (gd_t (sgd (c :: r) (by simp) hl)).trans ?_
    exact (qO _ (toBytes_strB (c :: r))).trans rfl
theorem res_str5 (s : BB) {R : Type} (K : BB × RowT sh6 × Unit → Option R) : tRes rs5 (some (.one (sC s), [bx sh6 ((), (), ())])) K = K (s, ((), (), ()), ()) := rfl
theorem txt_ne : ∀ {t : TT}, okT t → txtOf t ≠ []
  | .lf k nm z tx, h => by
    rcases h with ⟨rfl, h, rfl, rfl⟩ | ⟨rfl, rfl, rfl, h, h'⟩ | ⟨rfl, rfl, rfl, h⟩ | ⟨rfl, rfl, rfl, h⟩ | ⟨rfl, rfl, rfl, rfl⟩ | ⟨rfl, rfl, rfl, rfl⟩
    · intro h1
      have : nm = [] := h1
      subst this
      cases h
    · intro h1
      have hp := parse_itoa h h'
      rw [show itoaK z = [] from h1] at hp
      cases hp
    · rcases h with rfl | rfl <;> simp [txtOf]
    · simp [txtOf, quotedB]
    · simp [txtOf]
    · simp [txtOf]
  | .un k a, h => by simp only [txtOf]; split <;> simp
  | .bi k a b, h => by simp only [txtOf]; split <;> simp
theorem term_txt {t : TT} (h : okT t) {i : Int} (ha : t.at_ l i) (hl : (txtOf t).length ≤ 1000000) {c5 : Nat} (hM : ∀ n, c5 ≤ n → T n 5 [.one (lC (.im x0) 6 l), .one (iC i)] [] = some (.one (bC true), [])) :
    ∃ c, ∀ n, c ≤ n → T n 7 [.one (lC (.im x0) 6 l), .one (iC i)] [] = some (.one (sC (txtOf t)), []) := by
  obtain ⟨c, hp⟩ := put_tree x0 l t h i ha
  refine ⟨c + c5 + 3, fun n hn => ?_⟩
  obtain ⟨m, rfl⟩ : ∃ m, n = m + 1 := ⟨n - 1, by omega⟩
  rw [eqz_]
  unfold tqz_
  rw [hM m (by omega), res_b]
  dsimp only
  rw [bif_f (show (!true) = false from rfl)]
  have := hp m (by omega) [] (by simpa using hl)
  rw [List.nil_append] at this
  have e : (bx sh5 ((), ((Tag.im true), []), ())) = bx sh5 (bB []) := rfl
  rw [e, this, res_bup]
  dsimp only
  rw [string' m (by omega) _ (txt_ne h) hl, res_str5]
end
end
section
open Go Go.Abs PT
structure TR where
  k : Int
  nm : BB
  n : Int
  tx : BB
  x : Int
  y : Int
def cR (t : TR) : List D := row t.k t.nm t.n t.tx t.x t.y
def opsK (k : Int) : Int := if k = 0 ∨ k = 1 ∨ k = 2 ∨ k = 3 ∨ k = 4 ∨ k = 5 then 0 else if k = 15 ∨ k = 16 then 1
  else if k = 6 ∨ k = 7 ∨ k = 8 ∨ k = 9 ∨ k = 10 ∨ k = 11 ∨ k = 12 ∨ k = 13 ∨ k = 14 ∨ k = 17 ∨ k = 18 ∨ k = 19 then 2 else -1
def fldB (t : TR) : Bool :=
  bif t.k == 0 then (bif mayB t.nm then (bif t.n == 0 then t.tx == [] else false) else false)
  else bif t.k == 1 then (bif t.nm == [] then t.tx == [] else false)
  else bif t.k == 2 then (bif t.nm == [] then (bif t.tx == [] then (bif t.n == 0 then true else t.n == 1) else false) else false)
  else bif t.k == 3 then (bif t.nm == [] then (bif t.n == 0 then decide (t.tx.length ≤ 24) else false) else false)
  else (bif t.nm == [] then (bif t.n == 0 then t.tx == [] else false) else false)
abbrev WF := Nat → Int → List Bool → Bool × List Bool
def stp (rc : WF) (ops i to : Int) (a : Nat) (d : Int) (m : List Bool) : Bool × List Bool :=
  bif decide (i ≥ ops) then (decide (to = -1), m) else bif decide (to < 0) then (false, m) else bif decide (to ≥ (a : Int)) then (false, m) else rc to.toNat (d + 1) m
def wkB (rc : WF) (l : List TR) (a : Nat) (d : Int) (m : List Bool) : Bool × List Bool :=
  match l[a]? with
  | none => (false, m)
  | some t =>
    bif m.getD a false then (false, m) else bif decide (d > 24) then (false, m) else bif decide (opsK t.k < 0) then (false, m) else bif !(fldB t) then (false, m)
    else bif (stp rc (opsK t.k) 0 t.x a d (m.set a true)).1 then stp rc (opsK t.k) 1 t.y a d (stp rc (opsK t.k) 0 t.x a d (m.set a true)).2 else (false, (stp rc (opsK t.k) 0 t.x a d (m.set a true)).2)
def wk (l : List TR) : Nat → WF
  | 0 => fun _ _ m => (false, m)
  | f + 1 => wkB (wk l f) l
theorem operands' (n : Nat) (hn : 2 ≤ n) (k : Int) : T n 9 [.one (iC k)] [] = some (.one (iC (opsK k)), []) := by
  obtain ⟨m, rfl⟩ := Nat.exists_eq_add_of_le' hn
  rw [eqn_]
  unfold tqn_ ttqn_
  by_cases h0 : k = 0 ∨ k = 1 ∨ k = 2 ∨ k = 3 ∨ k = 4 ∨ k = 5
  · rcases h0 with rfl | rfl | rfl | rfl | rfl | rfl <;> rfl
  by_cases h1 : k = 15 ∨ k = 16
  · rcases h1 with rfl | rfl <;> rfl
  by_cases h2 : k = 6 ∨ k = 7 ∨ k = 8 ∨ k = 9 ∨ k = 10 ∨ k = 11 ∨ k = 12 ∨ k = 13 ∨ k = 14 ∨ k = 17 ∨ k = 18 ∨ k = 19
  · rcases h2 with rfl | rfl | rfl | rfl | rfl | rfl | rfl | rfl | rfl | rfl | rfl | rfl <;> rfl
  rw [show opsK k = -1 by unfold opsK; rw [if_neg h0, if_neg h1, if_neg h2]]
  simp only [not_or] at h0 h1 h2
  rw [bif_beq_f h0.1, bif_beq_f h0.2.1, bif_beq_f h0.2.2.1, bif_beq_f h0.2.2.2.1, bif_beq_f h0.2.2.2.2.1, bif_beq_f h0.2.2.2.2.2, bif_beq_f h1.1, bif_beq_f h1.2,
    bif_beq_f h2.1, bif_beq_f h2.2.1, bif_beq_f h2.2.2.1, bif_beq_f h2.2.2.2.1, bif_beq_f h2.2.2.2.2.1, bif_beq_f h2.2.2.2.2.2.1, bif_beq_f h2.2.2.2.2.2.2.1, bif_beq_f h2.2.2.2.2.2.2.2.1, bif_beq_f h2.2.2.2.2.2.2.2.2.1,
    bif_beq_f h2.2.2.2.2.2.2.2.2.2.1, bif_beq_f h2.2.2.2.2.2.2.2.2.2.2.1, bif_beq_f h2.2.2.2.2.2.2.2.2.2.2.2]
  rfl
theorem bif_ans {b : Bool} {p q : OR} {x y : Bool} (h : p = some (.one (bC x), [])) (h' : q = some (.one (bC y), [])) : (bif b then p else q) = some (.one (bC (bif b then x else y)), []) := by
  subst h h'; cases b <;> rfl
theorem fields' (n : Nat) (hn : 30 ≤ n) (t : TR) : T n 10 [.agg [iC t.k, sC t.nm, iC t.n, sC t.tx, iC t.x, iC t.y]] [] = some (.one (bC (fldB t)), []) := by
  obtain ⟨m, rfl⟩ : ∃ m, n = m + 30 := ⟨n - 30, by omega⟩
  rw [eq11_]
  unfold tq11_ fldB
  rw [may_ok (m + 29) (by omega), res_b]
  dsimp only
  refine bif_ans (bif_ans (bif_ans rfl rfl) rfl) (bif_ans (bif_ans rfl rfl) (bif_ans (bif_ans (bif_ans (bif_ans rfl rfl) rfl) rfl) (bif_ans (bif_ans (bif_ans ?_ rfl) rfl) (bif_ans (bif_ans rfl rfl) rfl))))
  exact congrArg (fun b => (some (V.one (bC b), []) : OR)) (decide_eq_decide.2 (show natI t.tx.length ≤ 24 ↔ t.tx.length ≤ 24 by rw [natI_eq]; omega))
theorem tRow_3 {R : Type} (z : Int) (K : RowT sh3 → Option R) : tRow sh3 (List.take 1 (List.drop 0 [.int .i64 z])) K = K (z, ()) := rfl
theorem tRow_b {R : Type} (z : Bool) (K : RowT [.bool] → Option R) : tRow [.bool] (List.take 1 (List.drop 0 [.bool z])) K = K (z, ()) := rfl
theorem tRow_t {R : Type} (t : TR) (K : RowT sh10 → Option R) : tRow sh10 (List.take 6 (cR t)) K = K (t.k, t.nm, t.n, t.tx, t.x, t.y, ()) := rfl
section
variable (x0 : Bool) (l : List TR)
abbrev bxL (x0 : Bool) (l : List TR) : RowT [.tg 6] := ((.im x0, l.map cR), ())
abbrev bxM (m : List Bool) : RowT [.tg 1] := ((.own, m.map fun b => [D.bool b]), ())
abbrev bxF : RowT sh4 := ((), ())
theorem res_w (b : Bool) (m : List Bool) {R : Type} (K : Bool × RowT [.tg 6] × RowT [.tg 1] × RowT sh4 × Unit → Option R) :
    tRes rs3 (some (.one (bC b), [bx [.tg 6] (bxL x0 l), bx [.tg 1] (bxM m), bx sh4 bxF])) K = K (b, bxL x0 l, bxM m, bxF, ()) := rfl
abbrev ansW (r : Bool × List Bool) : OR := some (.one (bC r.1), [bx [.tg 6] (bxL x0 l), bx [.tg 1] (bxM r.2), bx sh4 bxF])
def WOk (n : Nat) (rc : WF) (d : Int) : Prop := ∀ (c : Nat) (m : List Bool), c < l.length → m.length = l.length →
  T n 8 [.one (iC (c : Int)), .one (iC d), pE, .one (.ptr (.e 1) 0 0), .one (.ptr (.e 2) 0 0)] [bx [.tg 6] (bxL x0 l), bx [.tg 1] (bxM m), bx sh4 bxF] = ansW x0 l (rc c d m)
variable {x0 l}
theorem it (n q k : Nat) (rc : WF) (a : Nat) (d : Int) (hd : -1000 < d ∧ d < 1000) (hw : WOk x0 l n rc (d + 1)) (ha : a < l.length) {x2 x3 x4} (m : List Bool) (hm : m.length = l.length) (ops : Int) (L R : Int) (i : Nat) (to : Int)
    (hi : (i = 0 ∧ to = L) ∨ (i = 1 ∧ to = R)) :
    lq7__0 (T n) q x2 x3 x4 (k + 1) (.s0 (a : Int) d (bxL x0 l) (bxM m) bxF ops [[.int .i64 L], [.int .i64 R]] 2 (i : Int)) =
      bif (stp rc ops i to a d m).1 then lq7__0 (T n) q x2 x3 x4 k (.s0 (a : Int) d (bxL x0 l) (bxM (stp rc ops i to a d m).2) bxF ops [[.int .i64 L], [.int .i64 R]] 2 ((i + 1 : Nat) : Int))
      else ansW x0 l (false, (stp rc ops i to a d m).2) := by
  rw [lq7__0_e0]
  unfold wq7__0_0
  have hi2 : i < 2 := by omega
  rw [bif_t (decide_eq_true (by omega)), qO_asI _ rfl]
  refine (gd_t (decide_eq_true (by simpa using hi2))).trans ?_
  have hr : ([[.int .i64 L], [.int .i64 R]] : RR)[0 + i]? = some [.int .i64 to] := by
    rcases hi with ⟨rfl, rfl⟩ | ⟨rfl, rfl⟩ <;> rfl
  refine (qO _ hr).trans ?_
  refine (gd_t rfl).trans ?_
  rw [tRow_3]
  dsimp only
  have w1 : w64 ((i : Int) + 1) = ((i + 1 : Nat) : Int) := w64_succ i (by omega)
  rw [w1]
  unfold stp
  by_cases h1 : (i : Int) ≥ ops
  · rw [bif_t (decide_eq_true h1), bif_t (decide_eq_true h1)]
    by_cases h2 : to = -1
    · subst h2
      rw [bif_f (by decide)]
      rfl
    · rw [bif_t (by simpa using h2), decide_eq_false h2]
      rfl
  · rw [bif_f (decide_eq_false h1), bif_f (decide_eq_false h1)]
    by_cases h2 : to < 0
    · rw [bif_t (decide_eq_true h2), bif_t (decide_eq_true h2)]
      rfl
    · rw [bif_f (decide_eq_false h2), bif_f (decide_eq_false h2)]
      by_cases h3 : to ≥ (a : Int)
      · rw [bif_t (decide_eq_true h3), bif_t (decide_eq_true h3)]
        rfl
      · rw [bif_f (decide_eq_false h3), bif_f (decide_eq_false h3)]
        have e1 : w64 (d + 1) = d + 1 := by show IntKind.wrap .i64 _ = _; rw [wrap_i64 (by omega) (by omega)]
        have e2 : to = ((to.toNat : Nat) : Int) := by omega
        have := hw to.toNat m (by omega) hm
        rw [← e2] at this
        rw [e1]
        refine (congrArg (fun o => tRes rs3 o _) this).trans ?_
        rw [res_w]
        dsimp only
        cases (rc to.toNat (d + 1) m).1 <;> rfl
theorem stp_len {rc : WF} (hl : ∀ c d m, m.length = l.length → (rc c d m).2.length = l.length) (ops i to : Int) (a : Nat) (d : Int) (m : List Bool) (hm : m.length = l.length) : (stp rc ops i to a d m).2.length = l.length := by
  unfold stp
  cases decide (i ≥ ops)
  · cases decide (to < 0)
    · cases decide (to ≥ (a : Int))
      · exact hl _ _ _ hm
      · exact hm
    · exact hm
  · exact hm
theorem wk_len : ∀ (f : Nat) (c : Nat) (d : Int) (m : List Bool), m.length = l.length → (wk l f c d m).2.length = l.length
  | 0, c, d, m, hm => hm
  | f + 1, c, d, m, hm => by
    have ih := wk_len f
    show (wkB (wk l f) l c d m).2.length = _
    unfold wkB
    cases l[c]? with
    | none => exact hm
    | some t =>
      dsimp only
      cases m.getD c false with
      | true => exact hm
      | false =>
        cases decide (d > 24) with
        | true => exact hm
        | false =>
          cases decide (opsK t.k < 0) with
          | true => exact hm
          | false =>
            cases !(fldB t) with
            | true => exact hm
            | false =>
              have h1 := stp_len ih (opsK t.k) 0 t.x c d (m.set c true) (by simpa using hm)
              dsimp only [cond_false]
              cases (stp (wk l f) (opsK t.k) 0 t.x c d (m.set c true)).1 with
              | true => exact stp_len ih _ _ _ _ _ _ h1
              | false => exact h1
theorem walk_ok : ∀ (f : Nat) (d : Int), 1 ≤ d → d ≤ 25 → 26 ≤ (f : Int) + d → ∀ n, 60 + f ≤ n → WOk x0 l n (wk l f) d
  | 0, d, h1, h2, h3, n, hn => by omega
  | f + 1, d, h1, h2, h3, n, hn => by
    intro a m ha hm
    obtain ⟨n, rfl⟩ : ∃ n', n = n' + 60 := ⟨n - 60, by omega⟩
    rw [eq7_]
    unfold tq7_ ttq7_
    have hta : l[a]? = some l[a] := List.getElem?_eq_getElem ha
    generalize l[a] = t at hta
    have hma : m[a]? = some (m.getD a false) := by
      rw [List.getD_eq_getElem?_getD, List.getElem?_eq_getElem (by omega)]; rfl
    dsimp only [tagI]
    rw [qO_asI _ rfl, qO (b := cR t) _ (by rw [List.getElem?_map, hta]; rfl)]
    refine (gd_t rfl).trans ?_
    rw [tRow_t]
    dsimp only
    rw [operands' (n + 59) (by omega), res_i]
    dsimp only
    rw [qO_asI _ rfl]
    refine (gd_t (decide_eq_true (by rw [List.length_map]; omega))).trans ?_
    refine (qO (b := [D.bool (m.getD a false)]) _ (by rw [Nat.zero_add, List.getElem?_map, hma]; rfl)).trans ?_
    refine (gd_t rfl).trans ?_
    rw [tRow_b]
    dsimp only
    show _ = ansW x0 l (wkB (wk l f) l a d m)
    unfold wkB
    rw [hta]
    dsimp only
    cases m.getD a false with
    | true => rfl
    | false =>
      rw [cond_false, cond_false]
      by_cases g1 : d > 24
      · rw [bif_t (decide_eq_true g1), bif_t (decide_eq_true g1)]
      · rw [bif_f (decide_eq_false g1), bif_f (decide_eq_false g1)]
        by_cases g2 : opsK t.k < 0
        · rw [bif_t (decide_eq_true g2), bif_t (decide_eq_true g2)]
        · rw [bif_f (decide_eq_false g2), bif_f (decide_eq_false g2), fields' (n + 59) (by omega), res_b]
          dsimp only
          cases fldB t with
          | false => rfl
          | true =>
            rw [bif_f (show (!true) = false from rfl), bif_f (show (!true) = false from rfl), lq7__1_e0]
            unfold wq7__1_0
            dsimp only [tagI]
            rw [qO_asI _ rfl]
            refine (gd_t (decide_eq_true (by rw [List.length_map]; omega))).trans ?_
            refine (qO (b := [D.bool (m.getD a false)]) _ (by rw [Nat.zero_add, List.getElem?_map, hma]; rfl)).trans ?_
            refine (gd_t rfl).trans ?_
            rw [tRow_b]
            have hset : rset (m.map fun b => [D.bool b]) (0 + a) 0 (D.bool true) = (m.set a true).map fun b => [D.bool b] := by
              unfold rset
              rw [Nat.zero_add, List.map_set]
              congr 1
              rw [List.getD_eq_getElem?_getD, List.getElem?_map, hma]
              rfl
            rw [hset]
            have hw : WOk x0 l (n + 59) (wk l f) (d + 1) := walk_ok f (d + 1) (by omega) (by omega) (by omega) (n + 59) (by omega)
            have hs0 : (m.set a true).length = l.length := by simpa using hm
            have e0 := it (n + 59) (n + 59) (n + 58) (wk l f) a d (by omega) hw ha (x2 := bxL x0 l) (x3 := bxM m) (x4 := bxF) (m.set a true) hs0 (opsK t.k) t.x t.y 0 t.x (.inl ⟨rfl, rfl⟩)
            refine e0.trans ?_
            have hs1 := stp_len (wk_len f) (opsK t.k) 0 t.x a d (m.set a true) hs0
            rw [show ((0 : Nat) : Int) = 0 from rfl] at *
            generalize stp (wk l f) (opsK t.k) 0 t.x a d (m.set a true) = r at hs1 ⊢
            cases r.1 with
            | false => rfl
            | true =>
              rw [cond_true, cond_true]
              have e1 := it (n + 59) (n + 59) (n + 57) (wk l f) a d (by omega) hw ha (x2 := bxL x0 l) (x3 := bxM m) (x4 := bxF) r.2 hs1 (opsK t.k) t.x t.y 1 t.y (.inr ⟨rfl, rfl⟩)
              refine e1.trans ?_
              rw [show ((1 : Nat) : Int) = 1 from rfl]
              generalize hr2 : stp (wk l f) (opsK t.k) 1 t.y a d r.2 = r2
              cases h : r2.1 with
              | false => rw [cond_false]; cases r2; subst h; rfl
              | true =>
                rw [cond_true, lq7__0_e0]
                unfold wq7__0_0
                rw [bif_f (by decide)]
                cases r2; subst h; rfl
def mayT (l : List TR) (root : Int) : Bool := decide (l.length ≤ 160) && (decide (0 ≤ root) && (decide (root < l.length) && (wk l 25 root.toNat 1 (List.replicate l.length false)).1))
theorem mayT_ok (root : Int) (n : Nat) (hn : 100 ≤ n) : T n 5 [.one (lC (.im x0) 6 (l.map cR)), .one (iC root)] [] = some (.one (bC (mayT l root)), []) := by
  obtain ⟨n, rfl⟩ : ∃ n', n = n' + 100 := ⟨n - 100, by omega⟩
  rw [eql_]
  unfold tql_ ttql_ mayT
  rw [List.length_map, natI_eq]
  by_cases h1 : l.length ≤ 160
  · rw [bif_f (decide_eq_false (by omega)), decide_eq_true h1]
    by_cases h2 : 0 ≤ root
    · rw [bif_f (decide_eq_false (by omega)), decide_eq_true h2]
      by_cases h3 : root < l.length
      · rw [bif_f (decide_eq_false (by omega)), decide_eq_true h3, lql__0_e0]
        unfold wql__0_0
        dsimp only [tagI]
        refine (gd_t ?_).trans ?_
        · rw [List.length_map, decide_eq_true (Nat.le_refl _), decide_eq_true (by omega), decide_eq_true (by omega)]; rfl
        · have hw : WOk x0 l (n + 99) (wk l 25) 1 := walk_ok 25 1 (by omega) (by omega) (by omega) (n + 99) (by omega)
          have h := hw root.toNat (List.replicate l.length false) (by omega) (by simp)
          rw [show ((root.toNat : Nat) : Int) = root by omega] at h
          have e : bxM (List.replicate l.length false) = ((.own, List.replicate (l.map cR).length [D.bool false]), ()) := by
            unfold bxM; rw [List.map_replicate, List.length_map]
          rw [e] at h
          refine (congrArg (fun o => tRes rs3 o _) h).trans ?_
          rfl
      · rw [bif_t (decide_eq_true (by omega)), decide_eq_false h3]; rfl
    · rw [bif_t (decide_eq_true (by omega)), decide_eq_false h2]; rfl
  · rw [bif_t (decide_eq_true (by omega)), decide_eq_false h1]; rfl
end
end
section
open Go Go.Abs PT
def inR (t : TR) : Prop := -9223372036854775808 ≤ t.n ∧ t.n ≤ 9223372036854775807
theorem ops_cases (k : Int) : (opsK k = 0 ∧ (k = 0 ∨ k = 1 ∨ k = 2 ∨ k = 3 ∨ k = 4 ∨ k = 5)) ∨ (opsK k = 1 ∧ (k = 15 ∨ k = 16)) ∨ (opsK k = 2 ∧ (infx k = true ∨ k = 17 ∨ k = 18 ∨ k = 19)) ∨ opsK k = -1 := by
  unfold opsK
  by_cases h0 : k = 0 ∨ k = 1 ∨ k = 2 ∨ k = 3 ∨ k = 4 ∨ k = 5
  · rw [if_pos h0]; exact .inl ⟨rfl, h0⟩
  · rw [if_neg h0]
    by_cases h1 : k = 15 ∨ k = 16
    · rw [if_pos h1]; exact .inr (.inl ⟨rfl, h1⟩)
    · rw [if_neg h1]
      by_cases h2 : k = 6 ∨ k = 7 ∨ k = 8 ∨ k = 9 ∨ k = 10 ∨ k = 11 ∨ k = 12 ∨ k = 13 ∨ k = 14 ∨ k = 17 ∨ k = 18 ∨ k = 19
      · rw [if_pos h2]
        refine .inr (.inr (.inl ⟨rfl, ?_⟩))
        unfold infx
        simp only [Bool.and_eq_true, decide_eq_true_eq]
        omega
      · rw [if_neg h2]; exact .inr (.inr (.inr rfl))
theorem lf_of {t : TR} (h0 : t.k = 0 ∨ t.k = 1 ∨ t.k = 2 ∨ t.k = 3 ∨ t.k = 4 ∨ t.k = 5) (hf : fldB t = true) (hr : inR t) : lfOk t.k t.nm t.n t.tx := by
  obtain ⟨k, nm, n, tx, x, y⟩ := t
  unfold inR at hr
  simp only at h0 hr ⊢
  unfold lfOk
  rcases h0 with rfl | rfl | rfl | rfl | rfl | rfl <;> simp [fldB, Bool.cond_eq_ite] at hf
  · exact .inl ⟨rfl, hf⟩
  · exact .inr (.inl ⟨rfl, hf.1, hf.2, hr⟩)
  · exact .inr (.inr (.inl ⟨rfl, hf⟩))
  · exact .inr (.inr (.inr (.inl ⟨rfl, hf⟩)))
  · exact .inr (.inr (.inr (.inr (.inl ⟨rfl, hf⟩))))
  · exact .inr (.inr (.inr (.inr (.inr ⟨rfl, hf⟩))))
theorem fld_of {t : TR} (h0 : ¬ (t.k = 0 ∨ t.k = 1 ∨ t.k = 2 ∨ t.k = 3)) (hf : fldB t = true) : t.nm = [] ∧ t.n = 0 ∧ t.tx = [] := by
  obtain ⟨k, nm, n, tx, x, y⟩ := t
  simp only [not_or] at h0
  unfold fldB at hf
  simp only at hf h0 ⊢
  rw [bif_beq_f h0.1, bif_beq_f h0.2.1, bif_beq_f h0.2.2.1, bif_beq_f h0.2.2.2] at hf
  simp [Bool.cond_eq_ite] at hf
  exact hf
def cnt (m : List Bool) : Nat := m.count true
theorem cnt_le (m : List Bool) : cnt m ≤ m.length := List.count_le_length
theorem cnt_set : ∀ (m : List Bool) (a : Nat), a < m.length → m.getD a false = false → cnt (m.set a true) = cnt m + 1
  | [], a, h, _ => by simp at h
  | b :: m, 0, h, h' => by
    have : b = false := by simpa using h'
    subst this
    simp [cnt]
  | b :: m, a + 1, h, h' => by
    have := cnt_set m a (by simpa using h) (by simpa using h')
    simp only [cnt, List.set_cons_succ, List.count_cons] at this ⊢
    omega
theorem stp_inv {rc : WF} {ops i to : Int} {a : Nat} {d : Int} {m : List Bool} (h : (stp rc ops i to a d m).1 = true) :
    (i ≥ ops ∧ to = -1 ∧ (stp rc ops i to a d m).2 = m) ∨ (i < ops ∧ ∃ c : Nat, to = c ∧ c < a ∧ rc c (d + 1) m = (true, (stp rc ops i to a d m).2)) := by
  unfold stp at h ⊢
  by_cases h1 : i ≥ ops
  · rw [bif_t (decide_eq_true h1)] at h ⊢
    exact .inl ⟨h1, by simpa using h, rfl⟩
  · rw [bif_f (decide_eq_false h1)] at h ⊢
    by_cases h2 : to < 0
    · rw [bif_t (decide_eq_true h2)] at h; cases h
    · rw [bif_f (decide_eq_false h2)] at h ⊢
      by_cases h3 : to ≥ (a : Int)
      · rw [bif_t (decide_eq_true h3)] at h; cases h
      · rw [bif_f (decide_eq_false h3)] at h ⊢
        refine .inr ⟨by omega, to.toNat, by omega, by omega, ?_⟩
        generalize rc to.toNat (d + 1) m = r at h ⊢
        cases r
        subst h
        rfl
theorem wk_tree {l : List TR} (hr : ∀ t ∈ l, inR t) : ∀ (f a : Nat) (d : Int) (m m' : List Bool), m.length = l.length → wk l f a d m = (true, m') →
    ∃ t, okT t ∧ t.at_ (l.map cR) a ∧ (t.deep : Int) + d ≤ 25 ∧ m'.length = l.length ∧ cnt m' = cnt m + t.size
  | 0, a, d, m, m', hm, h => by cases h
  | f + 1, a, d, m, m', hm, h => by
    have ih := wk_tree hr f
    have h : wkB (wk l f) l a d m = (true, m') := h
    unfold wkB at h
    cases ht : l[a]? with
    | none => rw [ht] at h; cases h
    | some t =>
      rw [ht] at h
      dsimp only at h
      have hmem : t ∈ l := List.mem_of_getElem? ht
      have hla : a < l.length := (List.getElem?_eq_some_iff.1 ht).1
      have hrow : (l.map cR)[a]? = some (cR t) := by rw [List.getElem?_map, ht]; rfl
      cases hg : m.getD a false with
      | true => rw [hg] at h; cases h
      | false =>
        rw [hg, cond_false] at h
        by_cases g1 : d > 24
        · rw [bif_t (decide_eq_true g1)] at h; cases h
        rw [bif_f (decide_eq_false g1)] at h
        by_cases g2 : opsK t.k < 0
        · rw [bif_t (decide_eq_true g2)] at h; cases h
        rw [bif_f (decide_eq_false g2)] at h
        cases g3 : fldB t with
        | false => rw [g3] at h; cases h
        | true =>
          rw [g3, bif_f (show (!true) = false from rfl)] at h
          have hs := cnt_set m a (by omega) hg
          have hs2 : (m.set a true).length = l.length := by simpa using hm
          generalize m.set a true = m1 at h hs hs2
          cases g4 : (stp (wk l f) (opsK t.k) 0 t.x a d m1).1 with
          | false => rw [g4] at h; cases h
          | true =>
            rw [g4, cond_true] at h
            have i0 := stp_inv g4
            generalize (stp (wk l f) (opsK t.k) 0 t.x a d m1).2 = m2 at h i0
            have i1 := stp_inv (show (stp (wk l f) (opsK t.k) 1 t.y a d m2).1 = true by rw [h])
            rw [h] at i1
            rcases ops_cases t.k with ⟨hk, hk'⟩ | ⟨hk, hk'⟩ | ⟨hk, hk'⟩ | hk
            · rw [hk] at i0 i1
              rcases i0 with ⟨_, hx, rfl⟩ | ⟨h9, _⟩
              · rcases i1 with ⟨_, hy, h8⟩ | ⟨h9, _⟩
                · simp only at h8
                  subst h8
                  refine ⟨.lf t.k t.nm t.n t.tx, lf_of hk' g3 (hr t hmem), ⟨a, rfl, ?_⟩, ?_, hs2, hs⟩
                  · rw [hrow]; unfold cR; rw [hx, hy]
                  · show ((1 : Nat) : Int) + d ≤ 25; omega
                · omega
              · omega
            · rw [hk] at i0 i1
              obtain ⟨e1, e2, e3⟩ := fld_of (by omega) g3
              rcases i0 with ⟨h9, _⟩ | ⟨_, c, hx, hc, hrc⟩
              · omega
              · rcases i1 with ⟨_, hy, h8⟩ | ⟨h9, _⟩
                · simp only at h8
                  subst h8
                  obtain ⟨t1, ok1, at1, dp1, hl1, c1⟩ := ih c (d + 1) m1 m' hs2 hrc
                  refine ⟨.un t.k t1, ⟨hk', ok1⟩, ⟨a, t.x, rfl, ?_, ?_⟩, ?_, hl1, ?_⟩
                  · rw [hrow]; unfold cR; rw [hy, e1, e2, e3]
                  · rw [hx]; exact at1
                  · show ((t1.deep + 1 : Nat) : Int) + d ≤ 25; omega
                  · show cnt m' = cnt m + (t1.size + 1); omega
                · omega
            · rw [hk] at i0 i1
              have hk3 : ¬ (t.k = 0 ∨ t.k = 1 ∨ t.k = 2 ∨ t.k = 3) := by
                rcases hk' with h | h | h | h
                · unfold infx at h
                  simp only [Bool.and_eq_true, decide_eq_true_eq] at h
                  omega
                · omega
                · omega
                · omega
              obtain ⟨e1, e2, e3⟩ := fld_of hk3 g3
              rcases i0 with ⟨h9, _⟩ | ⟨_, c, hx, hc, hrc⟩
              · omega
              · rcases i1 with ⟨h9, _⟩ | ⟨_, c', hy, hc', hrc'⟩
                · omega
                · obtain ⟨t1, ok1, at1, dp1, hl1, c1⟩ := ih c (d + 1) m1 m2 hs2 hrc
                  obtain ⟨t2, ok2, at2, dp2, hl2, c2⟩ := ih c' (d + 1) m2 m' hl1 hrc'
                  refine ⟨.bi t.k t1 t2, ⟨hk', ok1, ok2⟩, ⟨a, t.x, t.y, rfl, ?_, ?_, ?_⟩, ?_, hl2, ?_⟩
                  · rw [hrow]; unfold cR; rw [e1, e2, e3]
                  · rw [hx]; exact at1
                  · rw [hy]; exact at2
                  · show ((max t1.deep t2.deep + 1 : Nat) : Int) + d ≤ 25; omega
                  · show cnt m' = cnt m + (t1.size + t2.size + 1); omega
            · omega
theorem may_tree {l : List TR} (hr : ∀ t ∈ l, inR t) {root : Int} (h : mayT l root = true) : ∃ t, okT t ∧ t.at_ (l.map cR) root ∧ t.deep ≤ 24 ∧ t.size ≤ l.length := by
  unfold mayT at h
  simp only [Bool.and_eq_true, decide_eq_true_eq] at h
  obtain ⟨h1, h2, h3, h4⟩ := h
  have h5 : wk l 25 root.toNat 1 (List.replicate l.length false) = (true, (wk l 25 root.toNat 1 (List.replicate l.length false)).2) := by
    generalize wk l 25 root.toNat 1 (List.replicate l.length false) = r at h4 ⊢
    cases r; subst h4; rfl
  obtain ⟨t, ok, at1, dp, hl, c⟩ := wk_tree hr 25 root.toNat 1 _ _ (by simp) h5
  have c0 : cnt (List.replicate l.length false) = 0 := by simp [cnt, List.count_replicate]
  have := cnt_le (wk l 25 root.toNat 1 (List.replicate l.length false)).2
  rw [show ((root.toNat : Nat) : Int) = root by omega] at at1
  exact ⟨t, ok, at1, by omega, by omega⟩
def TT.trs : TT → Nat → List TR
  | .lf k nm n tx, _ => [⟨k, nm, n, tx, -1, -1⟩]
  | .un k a, b => TT.trs a b ++ [⟨k, [], 0, [], (b + a.size : Nat) - 1, -1⟩]
  | .bi k a c, b => TT.trs a b ++ TT.trs c (b + a.size) ++ [⟨k, [], 0, [], (b + a.size : Nat) - 1, (b + a.size + c.size : Nat) - 1⟩]
theorem trs_rows : ∀ (t : TT) (b : Nat), (TT.trs t b).map cR = t.rows b
  | .lf .., _ => rfl
  | .un k a, b => by simp only [TT.trs, PT.TT.rows, List.map_append, trs_rows a]; rfl
  | .bi k a c, b => by simp only [TT.trs, PT.TT.rows, List.map_append, trs_rows a, trs_rows c]; rfl
theorem trs_len (t : TT) (b : Nat) : (TT.trs t b).length = t.size := by rw [← List.length_map (f := cR), trs_rows, PT.TT.rows_length]
theorem fld_lf {k : Int} {nm : BB} {n : Int} {tx : BB} (h : lfOk k nm n tx) (x y : Int) : fldB ⟨k, nm, n, tx, x, y⟩ = true ∧ opsK k = 0 := by
  rcases h with ⟨rfl, h, rfl, rfl⟩ | ⟨rfl, rfl, rfl, h, h'⟩ | ⟨rfl, rfl, rfl, h⟩ | ⟨rfl, rfl, rfl, h⟩ | ⟨rfl, rfl, rfl, rfl⟩ | ⟨rfl, rfl, rfl, rfl⟩
  · simp [fldB, h, opsK]
  · simp [fldB, opsK]
  · rcases h with rfl | rfl <;> simp [fldB, opsK]
  · simp [fldB, h, opsK]
  · simp [fldB, opsK]
  · simp [fldB, opsK]
theorem fld_in {k : Int} (h : k ≠ 0 ∧ k ≠ 1 ∧ k ≠ 2 ∧ k ≠ 3) (x y : Int) : fldB ⟨k, [], 0, [], x, y⟩ = true := by
  unfold fldB
  simp only
  rw [bif_beq_f h.1, bif_beq_f h.2.1, bif_beq_f h.2.2.1, bif_beq_f h.2.2.2]
  rfl
theorem wkB_some {rc : WF} {l : List TR} {a : Nat} {d : Int} {m : List Bool} {t : TR} (ht : l[a]? = some t) (hg : m.getD a false = false) (hd : d ≤ 24) (ho : ¬ opsK t.k < 0) (hf : fldB t = true) :
    wkB rc l a d m = bif (stp rc (opsK t.k) 0 t.x a d (m.set a true)).1 then stp rc (opsK t.k) 1 t.y a d (stp rc (opsK t.k) 0 t.x a d (m.set a true)).2 else (false, (stp rc (opsK t.k) 0 t.x a d (m.set a true)).2) := by
  unfold wkB
  rw [ht]
  dsimp only
  rw [hg, cond_false, bif_f (decide_eq_false (by omega)), bif_f (decide_eq_false ho), hf, bif_f (show (!true) = false from rfl)]
theorem stp_end {rc : WF} {ops i : Int} {a : Nat} {d : Int} {m : List Bool} (h : i ≥ ops) : stp rc ops i (-1) a d m = (true, m) := by
  unfold stp; rw [bif_t (decide_eq_true h)]; rfl
theorem stp_go {rc : WF} {ops i to : Int} {c : Nat} {a : Nat} {d : Int} {m : List Bool} (h : i < ops) (ht : to = c) (hc : c < a) : stp rc ops i to a d m = rc c (d + 1) m := by
  subst ht
  unfold stp; rw [bif_f (decide_eq_false (by omega)), bif_f (decide_eq_false (by omega)), bif_f (decide_eq_false (by omega))]; rfl
theorem getD_set_ne {m : List Bool} {a i : Nat} (h : i ≠ a) : (m.set a true).getD i false = m.getD i false := by
  rw [List.getD_eq_getElem?_getD, List.getD_eq_getElem?_getD, List.getElem?_set_ne (by omega)]
theorem wk_rows : ∀ (t : TT) (pre post : List TR) (f : Nat) (d : Int) (m : List Bool), okT t → 26 ≤ (f : Int) + d → (t.deep : Int) + d ≤ 25 →
    (∀ i, pre.length ≤ i → i < pre.length + t.size → m.getD i false = false) →
    ∃ m', wk (pre ++ TT.trs t pre.length ++ post) f (pre.length + t.size - 1) d m = (true, m') ∧ ∀ i, ¬ (pre.length ≤ i ∧ i < pre.length + t.size) → m'.getD i false = m.getD i false
  | t, pre, post, 0, d, m, h, hf, hd, hm => by
    have := TT.size_pos t
    cases t <;> simp [PT.TT.deep] at hd <;> omega
  | .lf k nm n tx, pre, post, f + 1, d, m, h, hf, hd, hm => by
    have h1 := fld_lf h (-1) (-1)
    simp only [PT.TT.deep] at hd
    refine ⟨m.set pre.length true, ?_, fun i hi => getD_set_ne (by simp only [PT.TT.size] at hi; omega)⟩
    show wkB _ _ _ _ _ = _
    rw [wkB_some (t := ⟨k, nm, n, tx, -1, -1⟩) (by simp [PT.TT.size, TT.trs]) (hm _ (by simp [PT.TT.size]) (by simp [PT.TT.size])) (by omega) (by rw [h1.2]; omega) h1.1]
    simp only [h1.2, PT.TT.size, Nat.add_sub_cancel]
    rw [stp_end (by omega)]
    dsimp only
    rw [cond_true]
    rw [stp_end (by omega)]
  | .un k a, pre, post, f + 1, d, m, h, hf, hd, hm => by
    simp only [PT.TT.deep] at hd
    have hp := TT.size_pos a
    have hk : opsK k = 1 := by rcases h.1 with rfl | rfl <;> rfl
    have hl : pre ++ TT.trs (.un k a) pre.length ++ post = pre ++ TT.trs a pre.length ++ (⟨k, [], 0, [], (pre.length + a.size : Nat) - 1, -1⟩ :: post) := by simp only [TT.trs, List.append_assoc, List.singleton_append]
    have e1 : pre.length + (PT.TT.un k a).size - 1 = pre.length + a.size := by simp only [PT.TT.size]; omega
    have hrow : (pre ++ TT.trs a pre.length ++ ((⟨k, [], 0, [], (pre.length + a.size : Nat) - 1, -1⟩ : TR) :: post))[pre.length + a.size]? = some ⟨k, [], 0, [], (pre.length + a.size : Nat) - 1, -1⟩ := by
      rw [List.getElem?_append_right (by simp [trs_len])]
      simp [trs_len]
    obtain ⟨m', h1, h2⟩ := wk_rows a pre (⟨k, [], 0, [], (pre.length + a.size : Nat) - 1, -1⟩ :: post) f (d + 1) (m.set (pre.length + a.size) true) h.2 (by omega) (by omega)
      (fun i h1 h2 => by rw [getD_set_ne (by omega)]; exact hm i h1 (by simp only [PT.TT.size]; omega))
    refine ⟨m', ?_, fun i hi => ?_⟩
    · rw [hl, e1]
      show wkB _ _ _ _ _ = _
      rw [wkB_some hrow (hm _ (by omega) (by simp only [PT.TT.size]; omega)) (by omega) (by rw [hk]; omega) (fld_in (by rcases h.1 with rfl | rfl <;> decide) _ _)]
      simp only [hk]
      rw [stp_go (c := pre.length + a.size - 1) (by omega) (by omega) (by omega), h1]
      dsimp only
      rw [cond_true]
      rw [stp_end (by omega)]
    · simp only [PT.TT.size] at hi
      rw [h2 i (by omega), getD_set_ne (by omega)]
  | .bi k a c, pre, post, f + 1, d, m, h, hf, hd, hm => by
    simp only [PT.TT.deep] at hd
    have hp := TT.size_pos a
    have hp2 := TT.size_pos c
    have hk : opsK k = 2 ∧ (k ≠ 0 ∧ k ≠ 1 ∧ k ≠ 2 ∧ k ≠ 3) := by
      rcases h.1 with h | rfl | rfl | rfl
      · unfold infx at h; simp only [Bool.and_eq_true, decide_eq_true_eq] at h
        have : k = 6 ∨ k = 7 ∨ k = 8 ∨ k = 9 ∨ k = 10 ∨ k = 11 ∨ k = 12 ∨ k = 13 ∨ k = 14 := by omega
        rcases this with rfl | rfl | rfl | rfl | rfl | rfl | rfl | rfl | rfl <;> decide
      · decide
      · decide
      · decide
    generalize hR : (⟨k, [], 0, [], (pre.length + a.size : Nat) - 1, (pre.length + a.size + c.size : Nat) - 1⟩ : TR) = R
    have hl : pre ++ TT.trs (.bi k a c) pre.length ++ post = pre ++ TT.trs a pre.length ++ (TT.trs c (pre.length + a.size) ++ (R :: post)) := by simp only [TT.trs, hR, List.append_assoc, List.singleton_append]
    have hla : (pre ++ TT.trs a pre.length).length = pre.length + a.size := by simp [trs_len]
    have hl2 : pre ++ TT.trs a pre.length ++ (TT.trs c (pre.length + a.size) ++ (R :: post)) = (pre ++ TT.trs a pre.length) ++ TT.trs c (pre ++ TT.trs a pre.length).length ++ (R :: post) := by rw [hla]; simp
    have e1 : pre.length + (PT.TT.bi k a c).size - 1 = pre.length + a.size + c.size := by simp only [PT.TT.size]; omega
    have hrow : (pre ++ TT.trs a pre.length ++ (TT.trs c (pre.length + a.size) ++ (R :: post)))[pre.length + a.size + c.size]? = some R := by
      rw [List.getElem?_append_right (by rw [hla]; omega), hla, List.getElem?_append_right (by rw [trs_len]; omega), trs_len]
      simp
    obtain ⟨m1, h1, h2⟩ := wk_rows a pre (TT.trs c (pre.length + a.size) ++ (R :: post)) f (d + 1) (m.set (pre.length + a.size + c.size) true) h.2.1 (by omega) (by omega)
      (fun i h1 h2 => by rw [getD_set_ne (by omega)]; exact hm i h1 (by simp only [PT.TT.size]; omega))
    obtain ⟨m2, h3, h4⟩ := wk_rows c (pre ++ TT.trs a pre.length) (R :: post) f (d + 1) m1 h.2.2 (by omega) (by omega)
      (fun i g1 g2 => by rw [hla] at g1 g2; rw [h2 i (by omega), getD_set_ne (by omega)]; exact hm i (by omega) (by simp only [PT.TT.size]; omega))
    rw [← hl2, hla] at h3
    rw [hla] at h4
    refine ⟨m2, ?_, fun i hi => ?_⟩
    · rw [hl, e1]
      show wkB _ _ _ _ _ = _
      have hk0 : opsK R.k = 2 := by rw [← hR]; exact hk.1
      have hx : R.x = (pre.length + a.size : Nat) - 1 := by rw [← hR]
      have hy : R.y = (pre.length + a.size + c.size : Nat) - 1 := by rw [← hR]
      rw [wkB_some hrow (hm _ (by omega) (by simp only [PT.TT.size]; omega)) (by omega) (by rw [hk0]; omega) (by rw [← hR]; exact fld_in hk.2 _ _)]
      simp only [hk0]
      rw [stp_go (c := pre.length + a.size - 1) (by omega) (by omega) (by omega), h1]
      dsimp only
      rw [cond_true]
      rw [stp_go (c := pre.length + a.size + c.size - 1) (by omega) (by omega) (by omega), h3]
    · simp only [PT.TT.size] at hi
      rw [h4 i (by omega), h2 i (by omega), getD_set_ne (by omega)]
theorem may_rows {t : TT} (h : okT t) (hd : t.deep ≤ 24) (hs : t.size ≤ 160) : mayT (TT.trs t 0) ((t.size : Nat) - 1 : Int) = true := by
  have hp := TT.size_pos t
  obtain ⟨m', h1, _⟩ := wk_rows t [] [] 25 1 (List.replicate (TT.trs t 0).length false) h (by omega) (by omega)
    (fun i _ h2 => by rw [List.getD_eq_getElem?_getD, List.getElem?_replicate]; split <;> rfl)
  simp only [List.length_nil, List.nil_append, List.append_nil, Nat.zero_add] at h1
  unfold mayT
  rw [trs_len] at h1 ⊢
  rw [decide_eq_true (by omega), decide_eq_true (by omega), decide_eq_true (by omega), show ((t.size : Nat) - 1 : Int).toNat = t.size - 1 by omega, h1]
  rfl
end
section
open Go Go.Abs PT
theorem drop_at {txt : BB} {i : Nat} {c : UInt8} {r : BB} (h : txt.drop i = c :: r) : txt[i]? = some c ∧ i < txt.length ∧ txt.drop (i + 1) = r := by
  have hl : i < txt.length := by
    apply Decidable.byContradiction
    intro hc
    rw [List.drop_eq_nil_of_le (by omega)] at h
    cases h
  have h2 := List.drop_eq_getElem_cons hl
  rw [h] at h2
  injection h2 with h3 h4
  exact ⟨by rw [List.getElem?_eq_getElem hl, h3], hl, h4.symm⟩
theorem drop_app {txt p r : BB} {i : Nat} (h : txt.drop i = p ++ r) : txt.drop (i + p.length) = r := by
  rw [← List.drop_drop, h, List.drop_left']
  rfl
theorem w64_two (i : Nat) (h : i < 1000000) : w64 ((i : Int) + 2) = ((i + 2 : Nat) : Int) := by
  show IntKind.wrap .i64 _ = _
  rw [wrap_i64 (by omega) (by omega)]
  simp
theorem qc_pos (c : UInt8) : 0 < (qc c).length := by
  unfold qc
  repeat' split
  all_goals simp
theorem res_u8 (z : Int) (p : RowT [.str]) {R : Type} (K : Int × RowT [.str] × Unit → Option R) : tRes rs19 (some (.one (.d (.int .u8 z)), [bx [.str] p])) K = K (z, p, ()) := by
  obtain ⟨s, u⟩ := p
  cases u
  rfl
theorem res_u8' (z : Int) {R : Type} (K : Int × Unit → Option R) : tRes rs20 (some (.one (.d (.int .u8 z)), [])) K = K (z, ()) := rfl
theorem behind_ok (n : Nat) (hn : 1 ≤ n) {txt : BB} {i : Nat} {c : UInt8} (h : txt[i]? = some c) : T n 46 [.one (iC (i : Int)), pE] [bx [.str] (txt, ())] = some (.one (.d (.int .u8 (natI c.toNat))), [bx [.str] (txt, ())]) := by
  obtain ⟨m, rfl⟩ := Nat.exists_eq_add_of_le' hn
  have hl := (List.getElem?_eq_some_iff.1 h).1
  rw [eqf_]
  unfold tqf_
  rw [bif_t (decide_eq_true (show (i : Int) < natI (List.length txt) by rw [natI_eq]; omega)), qO_asI _ rfl]
  exact qO _ h
theorem nb34 (c : UInt8) : (natI c.toNat == (34 : Int)) = decide (c.toNat = 34) := natI_beq c 34
theorem nb92 (c : UInt8) : (natI c.toNat == (92 : Int)) = decide (c.toNat = 92) := natI_beq c 92
def hexK (c : UInt8) : Bool := isDig c || (decide (97 ≤ c.toNat) && decide (c.toNat ≤ 102))
def worK (c : UInt8) : Int := bif isDig c then w8 (natI c.toNat - 48) else w8 (w8 (natI c.toNat - 97) + 10)
theorem hex' (n : Nat) (hn : 2 ≤ n) (c : UInt8) : T n 47 [.one (.d (.int .u8 (natI c.toNat)))] [] = some (.one (bC (hexK c)), []) := by
  obtain ⟨m, rfl⟩ := Nat.exists_eq_add_of_le' hn
  rw [eq1c_]
  unfold tq1c_ hexK
  rw [ldigit_ok (m + 1) (by omega), res_b]
  dsimp only
  cases isDig c with
  | true => rfl
  | false =>
    rw [cond_false]
    refine (rng_ok c.toNat 97 102).trans ?_
    rw [Bool.false_or]
    refine congrArg (fun b => (some (V.one (bC b), []) : OR)) ?_
    rw [natI_eq]; congr 1 <;> exact decide_eq_decide.2 (by omega)
theorem worth' (n : Nat) (hn : 2 ≤ n) (c : UInt8) : T n 48 [.one (.d (.int .u8 (natI c.toNat)))] [] = some (.one (.d (.int .u8 (worK c))), []) := by
  obtain ⟨m, rfl⟩ := Nat.exists_eq_add_of_le' hn
  rw [eq1d_]
  unfold tq1d_ worK
  rw [ldigit_ok (m + 1) (by omega), res_b]
  dsimp only
  cases isDig c with
  | true => rfl
  | false => rfl
def hexD (n : Nat) : Bool := hexK (hexd (n / 16)) && hexK (hexd (n % 16)) && decide (w8 (w8 ((16 : Int) * worK (hexd (n / 16))) + worK (hexd (n % 16))) = natI n)
theorem hexD_all : (List.range 256).all hexD = true := by kernel_rfl
theorem hexB_all (c : UInt8) : hexK (hexd (c.toNat / 16)) = true ∧ hexK (hexd (c.toNat % 16)) = true ∧ w8 (w8 ((16 : Int) * worK (hexd (c.toNat / 16))) + worK (hexd (c.toNat % 16))) = natI c.toNat := by
  have h := all_lt hexD_all c.toNat c.toNat_lt
  unfold hexD at h
  simp only [Bool.and_eq_true, decide_eq_true_eq] at h
  exact ⟨h.1.1, h.1.2, h.2⟩
theorem hex1 (n : Nat) (hn : 5 ≤ n) (c : UInt8) : T n 47 [.one (.d (.int .u8 (natI (hexd (c.toNat / 16)).toNat)))] [] = some (.one (bC true), []) := by rw [hex' n (by omega), (hexB_all c).1]
theorem hex2 (n : Nat) (hn : 5 ≤ n) (c : UInt8) : T n 47 [.one (.d (.int .u8 (natI (hexd (c.toNat % 16)).toNat)))] [] = some (.one (bC true), []) := by rw [hex' n (by omega), (hexB_all c).2.1]
theorem worth1 (n : Nat) (hn : 5 ≤ n) (c : UInt8) : T n 48 [.one (.d (.int .u8 (natI (hexd (c.toNat / 16)).toNat)))] [] = some (.one (.d (.int .u8 (worK (hexd (c.toNat / 16))))), []) := worth' n (by omega) _
theorem worth2 (n : Nat) (hn : 5 ≤ n) (c : UInt8) : T n 48 [.one (.d (.int .u8 (natI (hexd (c.toNat % 16)).toNat)))] [] = some (.one (.d (.int .u8 (worK (hexd (c.toNat % 16))))), []) := worth' n (by omega) _
theorem worth_sum (c : UInt8) : w8 (w8 ((16 : Int) * worK (hexd (c.toNat / 16))) + worK (hexd (c.toNat % 16))) = natI c.toNat := (hexB_all c).2.2
theorem qstep0 (n q : Nat) (hn : 5 ≤ n) (txt : BB) (ht : txt.length < 100000) (k i : Nat) (c : UInt8) (r : BB) (h : txt.drop i = qc c ++ r) :
    lq1__0 (T n) (q + 1) (k + 1) (.s0 (i : Int) (txt, ()) true []) = lq1__0 (T n) (q + 1) k (.s1 ((i + (qc c).length : Nat) : Int) (txt, ()) (D.strB [c])) := by
  have fin : ∀ (j : Nat) (R : RR), j < 1000000 → R = D.strB [c] → lq1__2 (T n) (q + 1) (lq1__0 (T n) (q + 1) k) (q + 1) (.s0 (j : Int) (txt, ()) R) = lq1__0 (T n) (q + 1) k (.s1 ((j + 1 : Nat) : Int) (txt, ()) (D.strB [c])) := by
    intro j R hj hR
    rw [lq1__2_e0]
    unfold wq1__2_0
    rw [w64_succ j hj, hR]
  have hlen : i ≤ txt.length := by
    apply Decidable.byContradiction; intro hc; rw [List.drop_eq_nil_of_le (by omega)] at h
    have := congrArg List.length h; rw [List.length_append] at this; have := qc_pos c; simp at *; omega
  rw [lq1__0_e0]
  unfold wq1__0_0
  unfold qc at h ⊢
  by_cases h1 : c.toNat = 34 ∨ c.toNat = 92
  · rw [if_pos h1] at h ⊢
    obtain ⟨g1, g2, g3⟩ := drop_at h
    rw [bif_t (decide_eq_true (show (i : Int) < natI (List.length txt) by rw [natI_eq]; omega)), qO_asI _ rfl]
    refine (qO _ g1).trans ?_
    rw [bif_f (by decide), bif_t (by decide), w64_succ i (by omega)]
    obtain ⟨g4, g5, g6⟩ := drop_at g3
    rw [behind_ok n (by omega) g4, res_u8]
    dsimp only
    rcases h1 with h1 | h1
    · rw [bif_t ((nb34 c).trans (decide_eq_true h1)), qO_asI _ rfl]
      refine (qO _ g4).trans ?_
      refine (gd_t rfl).trans ?_
      exact fin (i + 1) _ (by omega) rfl
    · rw [bif_f ((nb34 c).trans (decide_eq_false (by omega))), bif_t ((nb92 c).trans (decide_eq_true h1)), qO_asI _ rfl]
      refine (qO _ g4).trans ?_
      refine (gd_t rfl).trans ?_
      exact fin (i + 1) _ (by omega) rfl
  · rw [if_neg h1] at h ⊢
    by_cases h3 : c.toNat = 10
    · rw [if_pos h3] at h ⊢
      have hc : c = 10 := UInt8.toNat_inj.1 h3
      subst hc
      obtain ⟨g1, g2, g3⟩ := drop_at h
      rw [bif_t (decide_eq_true (show (i : Int) < natI (List.length txt) by rw [natI_eq]; omega)), qO_asI _ rfl]
      refine (qO _ g1).trans ?_
      rw [bif_f (by decide), bif_t (by decide), w64_succ i (by omega)]
      obtain ⟨g4, g5, g6⟩ := drop_at g3
      rw [behind_ok n (by omega) g4, res_u8]
      dsimp only
      rw [bif_f (by decide), bif_f (by decide), bif_t (by decide)]
      refine (gd_t rfl).trans ?_
      exact fin (i + 1) _ (by omega) rfl
    · rw [if_neg h3] at h ⊢
      by_cases h4 : c.toNat < 32 ∨ 126 < c.toNat
      · rw [if_pos h4] at h ⊢
        have hb := hexB_all c
        obtain ⟨g1, g2, g3⟩ := drop_at h
        rw [bif_t (decide_eq_true (show (i : Int) < natI (List.length txt) by rw [natI_eq]; omega)), qO_asI _ rfl]
        refine (qO _ g1).trans ?_
        rw [bif_f (by decide), bif_t (by decide), w64_succ i (by omega)]
        obtain ⟨g4, g5, g6⟩ := drop_at g3
        obtain ⟨g7, g8, g9⟩ := drop_at g6
        obtain ⟨g10, g11, g12⟩ := drop_at g9
        rw [behind_ok n (by omega) g4, res_u8]
        dsimp only
        rw [bif_f (by decide), bif_f (by decide), bif_f (by decide), bif_t (by decide), w64_succ (i + 1) (by omega), behind_ok n (by omega) g7, res_u8]
        dsimp only
        rw [hex1 n hn c, res_b]
        dsimp only
        rw [bif_f (show (!true) = false from rfl), w64_two (i + 1) (by omega), behind_ok n (by omega) g10, res_u8]
        dsimp only
        rw [hex2 n hn c, res_b]
        dsimp only
        rw [bif_f (show (!true) = false from rfl), lqf__e0]
        unfold wqf__0
        rw [w64_succ (i + 1) (by omega), w64_two (i + 1) (by omega), qO_asI _ rfl]
        refine (qO _ g7).trans ?_
        rw [worth1 n hn c, res_u8']
        dsimp only
        rw [qO_asI _ rfl]
        refine (qO _ g10).trans ?_
        rw [worth2 n hn c, res_u8']
        dsimp only
        refine (gd_t rfl).trans ?_
        exact fin (i + 1 + 2) _ (by omega) (by rw [worth_sum c]; rfl)
      · rw [if_neg h4] at h ⊢
        obtain ⟨g1, g2, g3⟩ := drop_at h
        rw [bif_t (decide_eq_true (show (i : Int) < natI (List.length txt) by rw [natI_eq]; omega)), qO_asI _ rfl]
        refine (qO _ g1).trans ?_
        rw [bif_f ((nb34 c).trans (decide_eq_false (by omega))), bif_f ((nb92 c).trans (decide_eq_false (by omega))), bif_f (decide_eq_false (show ¬ natI c.toNat < (32 : Int) by rw [natI_eq]; omega)), bif_f (decide_eq_false (show ¬ natI c.toNat > (126 : Int) by rw [natI_eq]; omega))]
        refine (gd_t rfl).trans ?_
        exact fin i _ (by omega) rfl
theorem qstep1 (n q : Nat) (hn : 5 ≤ n) (txt : BB) (ht : txt.length < 100000) (k i : Nat) (done : BB) (hdn : done ≠ []) (hdl : done.length < 100000) (c : UInt8) (r : BB) (h : txt.drop i = qc c ++ r) :
    lq1__0 (T n) (q + 1) (k + 1) (.s1 (i : Int) (txt, ()) (D.strB done)) = lq1__0 (T n) (q + 1) k (.s1 ((i + (qc c).length : Nat) : Int) (txt, ()) (D.strB (done ++ [c]))) := by
  have fin : ∀ (j : Nat) (R : RR), j < 1000000 → R = D.strB (done ++ [c]) → lq1__2 (T n) (q + 1) (lq1__0 (T n) (q + 1) k) (q + 1) (.s0 (j : Int) (txt, ()) R) = lq1__0 (T n) (q + 1) k (.s1 ((j + 1 : Nat) : Int) (txt, ()) (D.strB (done ++ [c]))) := by
    intro j R hj hR
    rw [lq1__2_e0]
    unfold wq1__2_0
    rw [w64_succ j hj, hR]
  have hlen : i ≤ txt.length := by
    apply Decidable.byContradiction; intro hc; rw [List.drop_eq_nil_of_le (by omega)] at h
    have := congrArg List.length h; rw [List.length_append] at this; have := qc_pos c; simp at *; omega
  rw [lq1__0_e1]
  unfold wq1__0_1
  unfold qc at h ⊢
  by_cases h1 : c.toNat = 34 ∨ c.toNat = 92
  · rw [if_pos h1] at h ⊢
    obtain ⟨g1, g2, g3⟩ := drop_at h
    rw [bif_t (decide_eq_true (show (i : Int) < natI (List.length txt) by rw [natI_eq]; omega)), qO_asI _ rfl]
    refine (qO _ g1).trans ?_
    rw [bif_f (by decide), bif_t (by decide), w64_succ i (by omega)]
    obtain ⟨g4, g5, g6⟩ := drop_at g3
    rw [behind_ok n (by omega) g4, res_u8]
    dsimp only
    rcases h1 with h1 | h1
    · rw [bif_t ((nb34 c).trans (decide_eq_true h1)), qO_asI _ rfl]
      refine (qO _ g4).trans ?_
      refine (gd_t (qgd _ done 1 hdn (by omega))).trans ?_
      exact fin (i + 1) _ (by omega) (by rw [strB_app]; rfl)
    · rw [bif_f ((nb34 c).trans (decide_eq_false (by omega))), bif_t ((nb92 c).trans (decide_eq_true h1)), qO_asI _ rfl]
      refine (qO _ g4).trans ?_
      refine (gd_t (qgd _ done 1 hdn (by omega))).trans ?_
      exact fin (i + 1) _ (by omega) (by rw [strB_app]; rfl)
  · rw [if_neg h1] at h ⊢
    by_cases h3 : c.toNat = 10
    · rw [if_pos h3] at h ⊢
      have hc : c = 10 := UInt8.toNat_inj.1 h3
      subst hc
      obtain ⟨g1, g2, g3⟩ := drop_at h
      rw [bif_t (decide_eq_true (show (i : Int) < natI (List.length txt) by rw [natI_eq]; omega)), qO_asI _ rfl]
      refine (qO _ g1).trans ?_
      rw [bif_f (by decide), bif_t (by decide), w64_succ i (by omega)]
      obtain ⟨g4, g5, g6⟩ := drop_at g3
      rw [behind_ok n (by omega) g4, res_u8]
      dsimp only
      rw [bif_f (by decide), bif_f (by decide), bif_t (by decide)]
      refine (gd_t (qgd _ done 1 hdn (by omega))).trans ?_
      exact fin (i + 1) _ (by omega) (by rw [strB_app]; rfl)
    · rw [if_neg h3] at h ⊢
      by_cases h4 : c.toNat < 32 ∨ 126 < c.toNat
      · rw [if_pos h4] at h ⊢
        have hb := hexB_all c
        obtain ⟨g1, g2, g3⟩ := drop_at h
        rw [bif_t (decide_eq_true (show (i : Int) < natI (List.length txt) by rw [natI_eq]; omega)), qO_asI _ rfl]
        refine (qO _ g1).trans ?_
        rw [bif_f (by decide), bif_t (by decide), w64_succ i (by omega)]
        obtain ⟨g4, g5, g6⟩ := drop_at g3
        obtain ⟨g7, g8, g9⟩ := drop_at g6
        obtain ⟨g10, g11, g12⟩ := drop_at g9
        rw [behind_ok n (by omega) g4, res_u8]
        dsimp only
        rw [bif_f (by decide), bif_f (by decide), bif_f (by decide), bif_t (by decide), w64_succ (i + 1) (by omega), behind_ok n (by omega) g7, res_u8]
        dsimp only
        rw [hex1 n hn c, res_b]
        dsimp only
        rw [bif_f (show (!true) = false from rfl), w64_two (i + 1) (by omega), behind_ok n (by omega) g10, res_u8]
        dsimp only
        rw [hex2 n hn c, res_b]
        dsimp only
        rw [bif_f (show (!true) = false from rfl), lqf__e1]
        unfold wqf__1
        rw [w64_succ (i + 1) (by omega), w64_two (i + 1) (by omega), qO_asI _ rfl]
        refine (qO _ g7).trans ?_
        rw [worth1 n hn c, res_u8']
        dsimp only
        rw [qO_asI _ rfl]
        refine (qO _ g10).trans ?_
        rw [worth2 n hn c, res_u8']
        dsimp only
        refine (gd_t (qgd _ done 1 hdn (by omega))).trans ?_
        exact fin (i + 1 + 2) _ (by omega) (by rw [worth_sum c]; rw [strB_app]; rfl)
      · rw [if_neg h4] at h ⊢
        obtain ⟨g1, g2, g3⟩ := drop_at h
        rw [bif_t (decide_eq_true (show (i : Int) < natI (List.length txt) by rw [natI_eq]; omega)), qO_asI _ rfl]
        refine (qO _ g1).trans ?_
        rw [bif_f ((nb34 c).trans (decide_eq_false (by omega))), bif_f ((nb92 c).trans (decide_eq_false (by omega))), bif_f (decide_eq_false (show ¬ natI c.toNat < (32 : Int) by rw [natI_eq]; omega)), bif_f (decide_eq_false (show ¬ natI c.toNat > (126 : Int) by rw [natI_eq]; omega))]
        refine (gd_t (qgd _ done 1 hdn (by omega))).trans ?_
        exact fin i _ (by omega) (by rw [strB_app]; rfl)
theorem plain_strB (b : BB) : plainRs (whole (D.strB b)) = D.strB b := by
  unfold whole
  rw [List.drop_zero, List.take_length]
  induction b with
  | nil => rfl
  | cons c r ih => exact congrArg (fun x => [D.int .u8 (c.toNat : Int)] :: x) ih
theorem qend0 (n q : Nat) (txt : BB) (ht : txt.length < 100000) (k i : Nat) (r : BB) (h : txt.drop i = 34 :: r) :
    lq1__0 (T n) (q + 1) (k + 1) (.s0 (i : Int) (txt, ()) true []) = some (.tup [.one (sC []), .one (iC ((i + 1 : Nat) : Int)), .one (bC true)], []) := by
  obtain ⟨g1, g2, g3⟩ := drop_at h
  rw [lq1__0_e0]
  unfold wq1__0_0
  rw [bif_t (decide_eq_true (show (i : Int) < natI (List.length txt) by rw [natI_eq]; omega)), qO_asI _ rfl]
  refine (qO _ g1).trans ?_
  rw [bif_t (by decide), w64_succ i (by omega)]
  rfl
theorem qend1 (n q : Nat) (txt : BB) (ht : txt.length < 100000) (k i : Nat) (done : BB) (r : BB) (h : txt.drop i = 34 :: r) :
    lq1__0 (T n) (q + 1) (k + 1) (.s1 (i : Int) (txt, ()) (D.strB done)) = some (.tup [.one (sC done), .one (iC ((i + 1 : Nat) : Int)), .one (bC true)], []) := by
  obtain ⟨g1, g2, g3⟩ := drop_at h
  rw [lq1__0_e1]
  unfold wq1__0_1
  rw [bif_t (decide_eq_true (show (i : Int) < natI (List.length txt) by rw [natI_eq]; omega)), qO_asI _ rfl]
  refine (qO _ g1).trans ?_
  rw [bif_t (by decide), w64_succ i (by omega), plain_strB]
  refine (gd_t (decide_eq_true (by omega))).trans ?_
  exact qO _ (toBytes_strB done)
theorem quote_loop (n q : Nat) (hn : 5 ≤ n) (txt : BB) (ht : txt.length < 100000) (r : BB) : ∀ (s : BB) (k i : Nat) (done : BB), done ≠ [] → done.length + s.length < 100000 → s.length < k → txt.drop i = s.flatMap qc ++ 34 :: r →
    lq1__0 (T n) (q + 1) k (.s1 (i : Int) (txt, ()) (D.strB done)) = some (.tup [.one (sC (done ++ s)), .one (iC ((i + (s.flatMap qc).length + 1 : Nat) : Int)), .one (bC true)], [])
  | [], k, i, done, hd, hl, hk, h => by
    obtain ⟨k, rfl⟩ : ∃ m, k = m + 1 := ⟨k - 1, by simp at hk; omega⟩
    rw [qend1 n q txt ht k i done r h]
    simp
  | c :: s, k, i, done, hd, hl, hk, h => by
    obtain ⟨k, rfl⟩ : ∃ m, k = m + 1 := ⟨k - 1, by simp at hk; omega⟩
    rw [List.flatMap_cons, List.append_assoc] at h
    simp only [List.length_cons] at hl hk
    rw [qstep1 n q hn txt ht k i done hd (by omega) c _ h]
    rw [quote_loop n q hn txt ht r s k _ (done ++ [c]) (by simp) (by simp; omega) (by omega) (drop_app h)]
    rw [List.flatMap_cons, List.length_append, List.append_assoc]
    rw [show i + (qc c).length + (s.flatMap qc).length + 1 = i + ((qc c).length + (s.flatMap qc).length) + 1 by omega]
    rfl
theorem quote_ok (n : Nat) (txt : BB) (ht : txt.length < 100000) (r s : BB) (hs : s.length + 10 < n) (hsl : s.length < 90000) (i : Nat) (h : txt.drop i = quotedB s ++ r) :
    T n 29 [.one (sC txt), .one (iC (i : Int))] [] = some (.tup [.one (sC s), .one (iC ((i + (quotedB s).length : Nat) : Int)), .one (bC true)], []) := by
  obtain ⟨m, rfl⟩ : ∃ m, n = m + 2 := ⟨n - 2, by omega⟩
  unfold quotedB at h
  rw [List.cons_append, List.append_assoc] at h
  obtain ⟨g1, g2, g3⟩ := drop_at h
  rw [eq1_]
  unfold tq1_ ttq1_
  rw [w64_succ i (by omega)]
  have hq : (quotedB s).length = (s.flatMap qc).length + 2 := by simp [quotedB]
  rw [hq]
  cases s with
  | nil => exact qend0 (m + 1) m txt ht m (i + 1) r g3
  | cons c s =>
    rw [List.flatMap_cons, List.append_assoc] at g3
    simp only [List.length_cons] at hs hsl
    rw [qstep0 (m + 1) m (by omega) txt ht m (i + 1) c _ g3]
    rw [quote_loop (m + 1) m (by omega) txt ht r s m _ [c] (by simp) (by simp; omega) (by omega) (drop_app g3)]
    rw [List.flatMap_cons, List.length_append]
    rw [show i + 1 + (qc c).length + (s.flatMap qc).length + 1 = i + ((qc c).length + (s.flatMap qc).length + 2) by omega]
    rfl
end
section
open Go Go.Abs PT
theorem ld' (n : Nat) (hn : 2 ≤ n) (c : UInt8) : T n 27 [.one (.d (.int .u8 (natI c.toNat)))] [] = some (.one (bC (isLD c)), []) := by
  obtain ⟨m, rfl⟩ := Nat.exists_eq_add_of_le' hn
  rw [eqd_]
  unfold tqd_ isLD
  rw [lletter_ok (m + 1) (by omega), res_b]
  dsimp only
  cases isLet c with
  | true => rfl
  | false => rw [cond_false, ldigit_ok (m + 1) (by omega), res_b]; rfl
theorem runLD_loop (n q : Nat) (hn : 2 ≤ n) (s : BB) (hs : s.length < 100000) : ∀ (k i : Nat), i ≤ s.length → s.length - i < k →
    l_lex_runx1_0 (T n) q k (.s0 s (i : Int)) = some (.one (iC ((i + ((s.drop i).takeWhile isLD).length : Nat) : Int)), [])
  | 0, i, hi, hk => by omega
  | k + 1, i, hi, hk => by
    rw [l_lex_runx1_0_e0]
    unfold w_lex_runx1_0_0
    by_cases h : i < s.length
    · have hc : s[i]? = some s[i] := List.getElem?_eq_getElem h
      have hd : s.drop i = s[i] :: s.drop (i + 1) := List.drop_eq_getElem_cons h
      have ih := runLD_loop n q hn s hs k (i + 1) (by omega) (by omega)
      rw [hd, List.takeWhile_cons]
      generalize s[i] = c at hc hd
      rw [bif_t (decide_eq_true (show (i : Int) < natI s.length by rw [natI_eq]; omega)), qO_asI _ rfl, qO _ hc, ld' n hn, res_b]
      dsimp only
      cases isLD c with
      | true =>
        rw [cond_true, w64_succ i (by omega), ih]
        simp only [if_true, List.length_cons]
        rw [show i + 1 + ((s.drop (i + 1)).takeWhile isLD).length = i + (((s.drop (i + 1)).takeWhile isLD).length + 1) by omega]
      | false => rfl
    · rw [bif_f (decide_eq_false (show ¬ (i : Int) < natI s.length by rw [natI_eq]; omega)), List.drop_eq_nil_of_le (by omega)]
      rfl
theorem runLD (n : Nat) (s : BB) (hs : s.length < 100000) (hn : s.length + 5 ≤ n) (i : Nat) (hi : i ≤ s.length) :
    T n 24 [.one (sC s), .one (iC (i : Int)), .one (.fn 27 [] [])] [] = some (.one (iC ((i + ((s.drop i).takeWhile isLD).length : Nat) : Int)), []) := by
  obtain ⟨m, rfl⟩ : ∃ m, n = m + 1 := ⟨n - 1, by omega⟩
  rw [e_lex_runx1]
  exact runLD_loop m m (by omega) s hs m i hi (by omega)
theorem runDig_loop (n q : Nat) (hn : 2 ≤ n) (s : BB) (hs : s.length < 100000) : ∀ (k i : Nat), i ≤ s.length → s.length - i < k →
    l_lex_runx2_0 (T n) q k (.s0 s (i : Int)) = some (.one (iC ((i + ((s.drop i).takeWhile isDig).length : Nat) : Int)), [])
  | 0, i, hi, hk => by omega
  | k + 1, i, hi, hk => by
    rw [l_lex_runx2_0_e0]
    unfold w_lex_runx2_0_0
    by_cases h : i < s.length
    · have hc : s[i]? = some s[i] := List.getElem?_eq_getElem h
      have hd : s.drop i = s[i] :: s.drop (i + 1) := List.drop_eq_getElem_cons h
      have ih := runDig_loop n q hn s hs k (i + 1) (by omega) (by omega)
      rw [hd, List.takeWhile_cons]
      generalize s[i] = c at hc hd
      rw [bif_t (decide_eq_true (show (i : Int) < natI s.length by rw [natI_eq]; omega)), qO_asI _ rfl, qO _ hc, ldigit_ok n (by omega), res_b]
      dsimp only
      cases isDig c with
      | true =>
        rw [cond_true, w64_succ i (by omega), ih]
        simp only [if_true, List.length_cons]
        rw [show i + 1 + ((s.drop (i + 1)).takeWhile isDig).length = i + (((s.drop (i + 1)).takeWhile isDig).length + 1) by omega]
      | false => rfl
    · rw [bif_f (decide_eq_false (show ¬ (i : Int) < natI s.length by rw [natI_eq]; omega)), List.drop_eq_nil_of_le (by omega)]
      rfl
theorem runDig (n : Nat) (s : BB) (hs : s.length < 100000) (hn : s.length + 5 ≤ n) (i : Nat) (hi : i ≤ s.length) :
    T n 24 [.one (sC s), .one (iC (i : Int)), .one (.fn 22 [] [])] [] = some (.one (iC ((i + ((s.drop i).takeWhile isDig).length : Nat) : Int)), []) := by
  obtain ⟨m, rfl⟩ : ∃ m, n = m + 1 := ⟨n - 1, by omega⟩
  rw [e_lex_runx2]
  exact runDig_loop m m (by omega) s hs m i hi (by omega)
theorem tw_all {f : UInt8 → Bool} {d r : BB} (hd : ∀ c ∈ d, f c = true) (hr : r.takeWhile f = []) : (d ++ r).takeWhile f = d := by
  rw [List.takeWhile_append_of_pos hd, hr, List.append_nil]
def numOk (raw d : BB) : Prop := (raw = d ∨ raw = 45 :: d) ∧ d ≠ [] ∧ (∀ c ∈ d, isDig c = true) ∧ (d.length = 1 ∨ ∀ c r, d = c :: r → c.toNat ≠ 48) ∧ raw ≠ [45, 48] ∧ raw.length ≤ 100 ∧ ∃ z, Lib.parseIntB 64 raw = .ok z
theorem dig_ne {c : UInt8} (h : isDig c = true) {k : Nat} (hk : k < 48 ∨ 57 < k) : c.toNat ≠ k := by
  unfold isDig at h
  simp only [Bool.and_eq_true, decide_eq_true_eq] at h
  omega
theorem nb48 (c : UInt8) : (natI c.toNat == (48 : Int)) = decide (c.toNat = 48) := natI_beq c 48
theorem nb45 (c : UInt8) : (natI c.toNat == (45 : Int)) = decide (c.toNat = 45) := natI_beq c 45
theorem number' (n : Nat) (hn : 150 ≤ n) {raw d : BB} (h : numOk raw d) : T n 28 [.one (sC raw)] [] = some (.one (bC true), []) := by
  obtain ⟨m, rfl⟩ : ∃ m, n = m + 150 := ⟨n - 150, by omega⟩
  obtain ⟨hr, hd, hdig, hz, h0, hl, z, hp⟩ := h
  rw [eqb_]
  unfold tqb_ ttqb_
  have hdl : d.length ≤ 100 := by
    rcases hr with h | h
    · rw [h] at hl; exact hl
    · rw [h, List.length_cons] at hl; omega
  have fin : ∀ (H : Sqb__1 → OR), H = lqb__1 (T (m + 149)) (m + 149) (m + 149) → H (.s0 raw d) = some (.one (bC true), []) := by
    rintro H rfl
    rw [lqb__1_e0]
    unfold wqb__1_0
    have hne : (d == []) = false := by cases d with | nil => exact absurd rfl hd | cons => rfl
    rw [bif_f hne, show (0 : Int) = ((0 : Nat) : Int) from rfl, runDig (m + 149) d (by omega) (by omega) 0 (by omega), res_i]
    dsimp only
    have ht : d.takeWhile isDig = d := by have := tw_all (r := []) hdig rfl; rwa [List.append_nil] at this
    rw [List.drop_zero, ht, Nat.zero_add, natI_eq, bif_f (by simp)]
    have e0 : (raw == [45, 48]) = false := by
      cases hq : raw == [45, 48] with
      | false => rfl
      | true => exact absurd (eq_of_beq hq) h0
    have e1 : lqb__0 (T (m + 149)) (m + 149) (m + 149) (.s0 raw) = some (.one (bC true), []) := by
      rw [lqb__0_e0]
      unfold wqb__0_0
      rw [parseInt' (m + 149) (by omega) raw (by omega) hp, res_err]
      rfl
    cases hdc : d with
    | nil => exact absurd hdc hd
    | cons c r =>
      refine (qO (b := c) _ rfl).trans ?_
      by_cases h48 : c.toNat = 48
      · have h1 : d.length = 1 := by
          rcases hz with h | h
          · exact h
          · exact absurd h48 (h c r hdc)
        rw [hdc] at h1
        rw [bif_t ((nb48 c).trans (decide_eq_true h48)), bif_f (decide_eq_false (show ¬ (((c :: r).length : Int) > 1) by rw [h1]; decide)), bif_f e0]
        exact e1
      · rw [bif_f ((nb48 c).trans (decide_eq_false h48)), bif_f e0]
        exact e1
  rcases hr with rfl | rfl
  · cases hdc : raw with
    | nil => exact absurd hdc hd
    | cons c r =>
      rw [bif_t (show (!(c :: r == [])) = true from rfl)]
      refine (qO (b := c) _ rfl).trans ?_
      have hc := hdig c (by rw [hdc]; simp)
      rw [bif_f ((nb45 c).trans (decide_eq_false (dig_ne hc (by omega))))]
      rw [← hdc]
      exact fin _ rfl
  · rw [bif_t (show (!(45 :: d == [])) = true from rfl)]
    refine (qO (b := (45 : UInt8)) _ rfl).trans ?_
    rw [bif_t (by decide)]
    refine (gd_t ?_).trans ?_
    · simp
    · have e : List.take ((45 :: d).length - Int.toNat (1 : Int)) (List.drop (Int.toNat (1 : Int)) (45 :: d)) = d := by
        show List.take ((45 :: d).length - 1) d = d
        simp
      rw [e]
      exact fin _ rfl
def closedB (k : Int) (s : BB) : Bool := bif k == 0 then !(kwB s) else bif k == 1 then true else bif k == 2 then true else s == [41]
theorem closed' (n : Nat) (hn : 3 ≤ n) (k : Int) (s : BB) (a : Int) : T n 23 [.agg [iC k, sC s, iC a]] [] = some (.one (bC (closedB k s)), []) := by
  obtain ⟨m, rfl⟩ : ∃ m, n = m + 3 := ⟨n - 3, by omega⟩
  rw [eq17_]
  unfold tq17_ closedB
  rw [keyword_ok (m + 2) (by omega), res_b]
  exact bif_ans rfl (bif_ans rfl (bif_ans rfl rfl))
theorem cut_ok {txt raw r : BB} {i : Nat} (h : txt.drop i = raw ++ r) (hr : raw ≠ []) : i + raw.length ≤ txt.length ∧ List.take (i + raw.length - i) (List.drop i txt) = raw := by
  have h1 := congrArg List.length h
  rw [List.length_drop, List.length_append] at h1
  have h2 : 0 < raw.length := by cases raw with | nil => exact absurd rfl hr | cons => simp
  refine ⟨by omega, ?_⟩
  rw [h, Nat.add_sub_cancel_left, List.take_left']
  rfl
theorem two_ne {txt : BB} {i : Nat} {c : UInt8} {r s : BB} (h : txt.drop i = c :: r) (hs : ∀ d, s ≠ c :: d) (m : Nat) : (List.take (m + 1) (List.drop i txt) == s) = false := by
  rw [h, List.take_succ_cons]
  cases hq : (c :: List.take m r) == s with
  | false => rfl
  | true => exact absurd (eq_of_beq hq).symm (hs _)
def sg1 : List UInt8 := [40, 41, 123, 125, 44, 59, 60, 43, 42, 47]
theorem cut1 {txt : BB} {i : Nat} {c : UInt8} {r : BB} (h : txt.drop i = c :: r) (hl : txt.length < 100000) :
    (qOpt (asI (i : Int)) fun o => qOpt (asI (w64 ((i : Int) + 1))) fun o' => gd (decide (o ≤ o') && decide (o' ≤ txt.length)) (some (V.one (sC (List.take (o' - o) (List.drop o txt))), ([] : List (List C))))) = some (.one (sC [c]), []) := by
  obtain ⟨g1, g2, g3⟩ := drop_at h
  rw [w64_succ i (by omega), qO_asI _ rfl, qO_asI _ rfl]
  refine (gd_t (by rw [decide_eq_true (by omega), decide_eq_true (by omega)]; rfl)).trans ?_
  rw [h, Nat.add_sub_cancel_left]
  rfl
theorem sign1 (n : Nat) (hn : 2 ≤ n) {txt : BB} (hl : txt.length < 100000) {i : Nat} {c : UInt8} {r : BB} (h : txt.drop i = c :: r) (hc : c ∈ sg1 ∨ (c = 45 ∧ ∃ r', r = 32 :: r')) :
    T n 30 [.one (sC txt), .one (iC (i : Int))] [] = some (.one (sC [c]), []) := by
  obtain ⟨m, rfl⟩ := Nat.exists_eq_add_of_le' hn
  obtain ⟨g1, g2, g3⟩ := drop_at h
  rw [eqe_]
  unfold tqe_ ttqe_
  have fin : lqe__1 (T (m + 1)) (m + 1) (m + 1) (.s0 txt (i : Int)) = some (.one (sC [c]), []) := by
    rw [lqe__1_e0]
    unfold wqe__1_0
    rw [qO_asI _ rfl]
    refine (qO _ g1).trans ?_
    have k := cut1 h hl
    rcases hc with hc | ⟨rfl, _⟩
    · simp only [sg1, List.mem_cons, List.not_mem_nil, or_false] at hc
      rcases hc with rfl | rfl | rfl | rfl | rfl | rfl | rfl | rfl | rfl | rfl <;> exact k
    · exact k
  rw [w64_succ i (by omega), natI_eq]
  by_cases hi : i + 1 < txt.length
  · rw [bif_t (decide_eq_true (by omega)), qO_asI _ rfl, qO_asI _ (w64_two i (by omega))]
    refine (gd_t (by rw [decide_eq_true (by omega), decide_eq_true (by omega)]; rfl)).trans ?_
    have e1 : (List.take (i + 2 - i) (List.drop i txt) == [61, 61]) = false := by
      rw [Nat.add_sub_cancel_left]
      refine two_ne h ?_ 1
      rintro d h; injection h with h _; subst h
      rcases hc with hc | ⟨hc, _⟩
      · revert hc; decide
      · cases hc
    have e2 : (List.take (i + 2 - i) (List.drop i txt) == [45, 62]) = false := by
      rw [Nat.add_sub_cancel_left, h]
      rcases hc with hc | ⟨rfl, r', rfl⟩
      · cases hq : List.take 2 (c :: r) == [45, 62] with
        | false => rfl
        | true =>
          have := eq_of_beq hq
          rw [List.take_succ_cons] at this
          injection this with h _
          subst h
          revert hc; decide
      · rfl
    rw [bif_f e1, bif_f e2]
    exact fin
  · rw [bif_f (decide_eq_false (by omega))]
    exact fin
theorem sign2 (n : Nat) (hn : 2 ≤ n) {txt : BB} (hl : txt.length < 100000) {i : Nat} {r : BB} (h : txt.drop i = 61 :: 61 :: r) :
    T n 30 [.one (sC txt), .one (iC (i : Int))] [] = some (.one (sC [61, 61]), []) := by
  obtain ⟨m, rfl⟩ := Nat.exists_eq_add_of_le' hn
  obtain ⟨g1, g2, g3⟩ := drop_at h
  obtain ⟨g4, g5, g6⟩ := drop_at g3
  rw [eqe_]
  unfold tqe_ ttqe_
  rw [w64_succ i (by omega), natI_eq, bif_t (decide_eq_true (by omega)), qO_asI _ rfl, qO_asI _ (w64_two i (by omega))]
  refine (gd_t (by rw [decide_eq_true (by omega), decide_eq_true (by omega)]; rfl)).trans ?_
  have e : List.take (i + 2 - i) (List.drop i txt) = [61, 61] := by rw [Nat.add_sub_cancel_left, h]; rfl
  rw [e]
  rfl
end
section
open Go Go.Abs PT
abbrev LX (n q k : Nat) (txt : BB) (l : List TK) (i : Nat) : OR := lq5__0 (T n) (q + 1) k (.s1 txt (l.map cT) (i : Int))
theorem res_q (s : BB) (z : Int) (b : Bool) {R : Type} (K : (BB × Int × Bool × Unit) × Unit → Option R) : tRes rs14 (some (.tup [.one (sC s), .one (iC z), .one (bC b)], [])) K = K ((s, z, b, ()), ()) := rfl
theorem isLet_ne {c : UInt8} (h : isLet c = true) {k : Nat} (hk : k < 97 ∨ 122 < k) : c.toNat ≠ k := by
  unfold isLet at h
  simp only [Bool.and_eq_true, decide_eq_true_eq] at h
  omega
theorem nbe {c : UInt8} {k : Nat} {z : Int} (hz : z = (k : Int)) (h : c.toNat ≠ k) : (natI c.toNat == z) = false := by subst hz; rw [natI_beq]; exact decide_eq_false h
section
variable {n q k : Nat} {txt : BB} {l : List TK} {i : Nat}
theorem len_row (hl : l.length < 100000) : ((l.map cT).length == (l.map cT).length && true && decide (((l.map cT).length + 1) * 32 ≤ 140737488355328)) = true := by
  rw [List.length_map, beq_self_eq_true, decide_eq_true (by omega)]; rfl
theorem h1_ok {H : Sq5__0 → OR} (kk : Int) {raw r : BB} (h : txt.drop i = raw ++ r) (hr : raw ≠ []) (hl : l.length < 100000) (j : Int) (hj : j = ((i + raw.length : Nat) : Int)) :
    lqh_ (T n) (q + 1) H (q + 1) (.s1 txt (l.map cT) (i : Int) (kk, [], (i : Int), ()) j) = H (.s1 txt ((l ++ [(⟨kk, raw, i⟩ : TK)]).map cT) ((i + raw.length : Nat) : Int)) := by
  obtain ⟨c1, c2⟩ := cut_ok h hr
  subst hj
  rw [lqh__e1]
  unfold wqh__1
  rw [qO_asI _ rfl, qO_asI _ rfl]
  refine (gd_t (by rw [decide_eq_true (by omega), decide_eq_true (by omega)]; rfl)).trans ?_
  refine (gd_t (len_row hl)).trans ?_
  rw [c2, List.map_append]
  rfl
theorem open_ok {c : UInt8} {r : BB} (h : txt.drop i = c :: r) (ht : txt.length < 100000) (hn : 10 ≤ n) (hc : c ≠ 45 ∨ ∃ d r', r = d :: r' ∧ isDig d = false) :
    LX n q (k + 1) txt l i = lqd_ (T n) (q + 1) (lq5__0 (T n) (q + 1) k) (q + 1) (.s1 txt (l.map cT) (i : Int) (natI c.toNat) (0, [], (i : Int), ()) false) := by
  obtain ⟨g1, g2, g3⟩ := drop_at h
  unfold LX
  rw [lq5__0_e1]
  unfold wq5__0_1
  rw [bif_t (decide_eq_true (show (i : Int) < natI txt.length by rw [natI_eq]; omega)), qO_asI _ rfl]
  refine (qO _ g1).trans ?_
  by_cases h45 : c = 45
  · subst h45
    obtain ⟨d, r', hr, hd⟩ : ∃ d r', r = d :: r' ∧ isDig d = false := by
      rcases hc with hc | hc
      · exact absurd rfl hc
      · exact hc
    subst hr
    obtain ⟨g4, g5, g6⟩ := drop_at g3
    rw [bif_t (by decide), w64_succ i (by omega), bif_t (decide_eq_true (show ((i + 1 : Nat) : Int) < natI txt.length by rw [natI_eq]; omega)), qO_asI _ rfl]
    refine (qO _ g4).trans ?_
    rw [ldigit_ok n (by omega), res_b, hd]
    rfl
  · rw [bif_f (nbe (k := 45) (z := 45) rfl (fun h => h45 (UInt8.toNat_inj.1 h)))]
theorem row_last {l0 : List TK} {x : TK} {R : Type} (K : RowT sh11 → Option R) : tRow sh11 (List.take 3 (List.drop 0 (cT x))) K = K (x.k, x.s, x.a, ()) := rfl
theorem open_neg {d : UInt8} {r : BB} (h : txt.drop i = 45 :: d :: r) (ht : txt.length < 100000) (hn : 10 ≤ n) (hd : isDig d = true) {l0 : List TK} {x : TK} (hl : l = l0 ++ [x]) (hx : closedB x.k x.s = false) (hll : l.length < 100000) :
    LX n q (k + 1) txt l i = lqd_ (T n) (q + 1) (lq5__0 (T n) (q + 1) k) (q + 1) (.s1 txt (l.map cT) (i : Int) (natI (45 : UInt8).toNat) (0, [], (i : Int), ()) true) := by
  obtain ⟨g1, g2, g3⟩ := drop_at h
  obtain ⟨g4, g5, g6⟩ := drop_at g3
  have hlen : l.length = l0.length + 1 := by rw [hl]; simp
  unfold LX
  rw [lq5__0_e1]
  unfold wq5__0_1
  rw [bif_t (decide_eq_true (show (i : Int) < natI txt.length by rw [natI_eq]; omega)), qO_asI _ rfl]
  refine (qO _ g1).trans ?_
  rw [bif_t (by decide), w64_succ i (by omega), bif_t (decide_eq_true (show ((i + 1 : Nat) : Int) < natI txt.length by rw [natI_eq]; omega)), qO_asI _ rfl]
  refine (qO _ g4).trans ?_
  rw [ldigit_ok n (by omega), res_b, hd]
  dsimp only
  rw [cond_true, List.length_map, natI_eq, bif_f (show ((l.length : Int) == 0) = false by rw [hlen]; simp; omega), hlen]
  rw [qO_asI _ (w64_len l0.length (by omega))]
  refine (gd_t (decide_eq_true (by omega))).trans ?_
  refine (qO (b := cT x) _ (by rw [Nat.zero_add, List.getElem?_map, hl, List.getElem?_append_right (by omega)]; simp)).trans ?_
  refine (gd_t rfl).trans ?_
  rw [row_last (l0 := l0)]
  dsimp only
  rw [closed' n (by omega), res_b, hx]
  rfl
end
def Lx (txt : BB) (l : List TK) (i : Nat) (l' : List TK) (i' : Nat) : Prop := ∃ c, ∀ n q k, txt.length + 200 ≤ n → LX n q (k + c) txt l i = LX n q k txt l' i'
section
variable {txt : BB} {l l' l2 : List TK} {i i' i2 : Nat}
theorem Lx.refl : Lx txt l i l i := ⟨0, fun _ _ _ _ => rfl⟩
theorem Lx.trans (h : Lx txt l i l' i') (h' : Lx txt l' i' l2 i2) : Lx txt l i l2 i2 := by
  obtain ⟨c, h⟩ := h
  obtain ⟨c', h'⟩ := h'
  refine ⟨c' + c, fun n q k hn => ?_⟩
  rw [← Nat.add_assoc, h n q (k + c') hn, h' n q k hn]
theorem lx_sp {r : BB} (h : txt.drop i = 32 :: r) (ht : txt.length < 100000) : Lx txt l i l (i + 1) := by
  refine ⟨1, fun n q k hn => ?_⟩
  obtain ⟨g1, g2, g3⟩ := drop_at h
  rw [open_ok h ht (by omega) (.inl (by decide)), lqd__e1]
  unfold wqd__1
  rw [bif_t (by decide), w64_succ i (by omega)]
theorem lx_word {raw r : BB} {c : UInt8} {raw' : BB} (h : txt.drop i = raw ++ r) (ht : txt.length < 100000) (hraw : raw = c :: raw') (hc : isLet c = true) (hall : ∀ x ∈ raw, isLD x = true) (hr : r.takeWhile isLD = []) (hl : l.length < 100000) :
    Lx txt l i (l ++ [⟨0, raw, i⟩]) (i + raw.length) := by
  refine ⟨1, fun n q k hn => ?_⟩
  have h' : txt.drop i = c :: (raw' ++ r) := by rw [h, hraw]; rfl
  obtain ⟨g1, g2, g3⟩ := drop_at h'
  rw [open_ok h' ht (by omega) (.inl (by rintro rfl; revert hc; decide)), lqd__e1]
  unfold wqd__1
  rw [bif_f (nbe (k := 32) (z := 32) rfl (isLet_ne hc (by omega))), bif_f (nbe (k := 9) (z := 9) rfl (isLet_ne hc (by omega))), bif_f (nbe (k := 10) (z := 10) rfl (isLet_ne hc (by omega))), bif_f (nbe (k := 35) (z := 35) rfl (isLet_ne hc (by omega))),
    lletter_ok n (by omega), res_b, hc]
  dsimp only
  rw [cond_true, runLD n txt ht (by omega) i (by omega), res_i]
  dsimp only
  rw [h, tw_all hall hr]
  exact h1_ok 0 h (by rw [hraw]; simp) hl _ rfl
theorem isLet_dig {c : UInt8} (h : isDig c = true) : isLet c = false := by
  unfold isDig at h; unfold isLet
  simp only [Bool.and_eq_true, decide_eq_true_eq] at h
  rw [decide_eq_false (show ¬ 97 ≤ c.toNat by omega)]; rfl
theorem lx_num {raw d r : BB} (h : txt.drop i = raw ++ r) (ht : txt.length < 100000) (hno : numOk raw d) (hr : r.takeWhile isDig = []) (hl : l.length < 100000) {l0 : List TK} {x : TK} (hlx : l = l0 ++ [x]) (hx : closedB x.k x.s = false) :
    Lx txt l i (l ++ [⟨1, raw, i⟩]) (i + raw.length) := by
  refine ⟨1, fun n q k hn => ?_⟩
  have hno' := hno
  obtain ⟨hraw, hd, hdig, _⟩ := hno'
  have hne : raw ≠ [] := by rcases hraw with rfl | rfl; exact hd; simp
  obtain ⟨c1, c2⟩ := cut_ok h hne
  rcases hraw with rfl | hraw
  · cases hc : raw with
    | nil => exact absurd hc hd
    | cons c d =>
      have hdc := hdig c (by rw [hc]; simp)
      have h' : txt.drop i = c :: (d ++ r) := by rw [h, hc]; rfl
      obtain ⟨g1, g2, g3⟩ := drop_at h'
      rw [open_ok h' ht (by omega) (.inl (by rintro rfl; revert hdc; decide)), lqd__e1]
      unfold wqd__1
      rw [bif_f (nbe (k := 32) (z := 32) rfl (dig_ne hdc (by omega))), bif_f (nbe (k := 9) (z := 9) rfl (dig_ne hdc (by omega))), bif_f (nbe (k := 10) (z := 10) rfl (dig_ne hdc (by omega))), bif_f (nbe (k := 35) (z := 35) rfl (dig_ne hdc (by omega))),
        lletter_ok n (by omega), res_b, isLet_dig hdc]
      dsimp only
      rw [cond_false, ldigit_ok n (by omega), res_b, hdc]
      dsimp only
      rw [cond_true, w64_succ i (by omega), runDig n txt ht (by omega) (i + 1) (by omega), res_i]
      dsimp only
      rw [g3, tw_all (fun x hx => hdig x (by rw [hc]; simp [hx])) hr]
      have e : i + 1 + d.length = i + raw.length := by rw [hc]; simp; omega
      rw [e, qO_asI _ rfl, qO_asI _ rfl]
      refine (gd_t (by rw [decide_eq_true (by omega), decide_eq_true (by omega)]; rfl)).trans ?_
      rw [c2, number' n (by omega) hno, res_b]
      dsimp only
      rw [bif_f (show (!true) = false from rfl), ← hc]
      exact h1_ok 1 h hne hl _ rfl
  · cases hc : d with
    | nil => exact absurd hc hd
    | cons c d' =>
      have hdc := hdig c (by rw [hc]; simp)
      have h' : txt.drop i = 45 :: c :: (d' ++ r) := by rw [h, hraw, hc]; rfl
      have h2 : txt.drop i = 45 :: (d ++ r) := by rw [h, hraw]; rfl
      obtain ⟨g1, g2, g3⟩ := drop_at h2
      rw [open_neg h' ht (by omega) hdc hlx hx hl, lqd__e1]
      unfold wqd__1
      rw [bif_f (by decide), bif_f (by decide), bif_f (by decide), bif_f (by decide), lletter_ok n (by omega), res_b]
      dsimp only
      rw [bif_f (by decide), ldigit_ok n (by omega), res_b]
      dsimp only
      rw [bif_f (by decide), cond_true, w64_succ i (by omega), runDig n txt ht (by omega) (i + 1) (by omega), res_i]
      dsimp only
      rw [g3, tw_all hdig hr]
      have e : i + 1 + d.length = i + raw.length := by rw [hraw]; simp; omega
      rw [e, qO_asI _ rfl, qO_asI _ rfl]
      refine (gd_t (by rw [decide_eq_true (by omega), decide_eq_true (by omega)]; rfl)).trans ?_
      rw [c2, number' n (by omega) hno, res_b]
      dsimp only
      rw [bif_f (show (!true) = false from rfl)]
      exact h1_ok 1 h hne hl _ rfl
theorem lx_quote {s r : BB} (h : txt.drop i = quotedB s ++ r) (ht : txt.length < 100000) (hs : s.length ≤ 100) (hl : l.length < 100000) : Lx txt l i (l ++ [⟨2, s, i⟩]) (i + (quotedB s).length) := by
  refine ⟨1, fun n q k hn => ?_⟩
  have h' : txt.drop i = 34 :: (s.flatMap qc ++ [34] ++ r) := by rw [h]; rfl
  rw [open_ok h' ht (by omega) (.inl (by decide)), lqd__e1]
  unfold wqd__1
  rw [bif_f (by decide), bif_f (by decide), bif_f (by decide), bif_f (by decide), lletter_ok n (by omega), res_b]
  dsimp only
  rw [bif_f (by decide), ldigit_ok n (by omega), res_b]
  dsimp only
  rw [bif_f (by decide), cond_false, bif_t (by decide), quote_ok n txt ht r s (by omega) (by omega) i h, res_q]
  dsimp only
  rw [bif_f (show (!true) = false from rfl)]
  refine (gd_t (len_row hl)).trans ?_
  unfold LX
  rw [List.map_append]
  rfl
theorem not_let {c : UInt8} (h : c ∈ (45 :: 61 :: sg1)) : isLet c = false ∧ isDig c = false ∧ (natI c.toNat == (32 : Int)) = false ∧ (natI c.toNat == (9 : Int)) = false ∧ (natI c.toNat == (10 : Int)) = false ∧ (natI c.toNat == (35 : Int)) = false ∧ (natI c.toNat == (34 : Int)) = false := by
  simp only [sg1, List.mem_cons, List.not_mem_nil, or_false] at h
  rcases h with rfl | rfl | rfl | rfl | rfl | rfl | rfl | rfl | rfl | rfl | rfl | rfl <;> decide
theorem lx_sign {raw r : BB} {c : UInt8} {raw' : BB} (h : txt.drop i = raw ++ r) (hraw : raw = c :: raw') (ht : txt.length < 100000) (hl : l.length < 100000)
    (hc : (raw = [c] ∧ (c ∈ sg1 ∨ (c = 45 ∧ ∃ r', r = 32 :: r'))) ∨ raw = [61, 61]) : Lx txt l i (l ++ [⟨3, raw, i⟩]) (i + raw.length) := by
  refine ⟨1, fun n q k hn => ?_⟩
  have h' : txt.drop i = c :: (raw' ++ r) := by rw [h, hraw]; rfl
  have hmem : c ∈ (45 :: 61 :: sg1) := by
    rcases hc with ⟨_, hc | ⟨rfl, _⟩⟩ | hc
    · simp [hc]
    · simp
    · rw [hraw] at hc; injection hc with hc _; subst hc; simp
  obtain ⟨n1, n2, n3, n4, n5, n6, n7⟩ := not_let hmem
  rw [open_ok h' ht (by omega) (by
    rcases hc with ⟨h1, hc | ⟨rfl, r', h2⟩⟩ | hc
    · exact .inl (by rintro rfl; revert hc; decide)
    · rw [hraw] at h1; injection h1 with _ h1; subst h1; subst h2; exact .inr ⟨32, r', rfl, by decide⟩
    · rw [hraw] at hc; injection hc with hc _; subst hc; exact .inl (by decide)), lqd__e1]
  unfold wqd__1
  rw [bif_f n3, bif_f n4, bif_f n5, bif_f n6, lletter_ok n (by omega), res_b, n1]
  dsimp only
  rw [cond_false, ldigit_ok n (by omega), res_b, n2]
  dsimp only
  rw [cond_false, cond_false, bif_f n7]
  have hs : T n 30 [.one (sC txt), .one (iC (i : Int))] [] = some (.one (sC raw), []) := by
    rcases hc with ⟨h1, hc⟩ | hc
    · rw [hraw] at h1
      injection h1 with _ h1
      subst h1
      rw [hraw]
      exact sign1 n (by omega) ht h' hc
    · rw [hc] at h ⊢
      exact sign2 n (by omega) ht h
  rw [hs, res_s]
  dsimp only
  rw [bif_f (show (raw == []) = false by rw [hraw]; rfl)]
  have hb : i + raw.length < 1000000 := by have := (cut_ok h (by rw [hraw]; simp)).1; omega
  exact h1_ok 3 h (by rw [hraw]; simp) hl (w64 ((i : Int) + natI raw.length)) (by
    show IntKind.wrap .i64 _ = _
    rw [natI_eq, wrap_i64 (by omega) (by omega)]; simp)
end
end
section
open Go Go.Abs PT
def kt (t : TK) : Int × BB := (t.k, t.s)
def LxK (txt : BB) (l : List TK) (i : Nat) (tk : List (Int × BB)) (i' : Nat) : Prop := ∃ ts : List TK, ts.map kt = tk ∧ Lx txt l i (l ++ ts) i' ∧ (l ++ ts).length ≤ i'
def Opn (l : List TK) : Prop := ∃ l0 x, l = l0 ++ [x] ∧ closedB x.k x.s = false
section
variable {txt : BB} {l : List TK} {i i1 i2 : Nat} {tk tk' : List (Int × BB)}
theorem LxK.nil (hl : l.length ≤ i) : LxK txt l i [] i := ⟨[], rfl, by rw [List.append_nil]; exact Lx.refl, by rw [List.append_nil]; exact hl⟩
theorem LxK.tok {x : TK} (h : Lx txt l i (l ++ [x]) i1) (r : LxK txt (l ++ [x]) i1 tk i2) : LxK txt l i (kt x :: tk) i2 := by
  obtain ⟨ts, h1, h2, h3⟩ := r
  refine ⟨x :: ts, by rw [List.map_cons, h1], ?_, ?_⟩
  · rw [show l ++ x :: ts = l ++ [x] ++ ts by simp]; exact h.trans h2
  · rw [show l ++ x :: ts = l ++ [x] ++ ts by simp]; exact h3
theorem LxK.sp {r : BB} (h : txt.drop i = 32 :: r) (ht : txt.length < 100000) (k : LxK txt l (i + 1) tk i2) : LxK txt l i tk i2 := by
  obtain ⟨ts, h1, h2, h3⟩ := k
  exact ⟨ts, h1, (lx_sp h ht).trans h2, h3⟩
theorem LxK.app (h : LxK txt l i tk i1) (r : ∀ ts : List TK, (l ++ ts).length ≤ i1 → LxK txt (l ++ ts) i1 tk' i2) : LxK txt l i (tk ++ tk') i2 := by
  obtain ⟨ts, h1, h2, h3⟩ := h
  obtain ⟨ts', g1, g2, g3⟩ := r ts h3
  refine ⟨ts ++ ts', by rw [List.map_append, h1, g1], ?_, ?_⟩
  · rw [← List.append_assoc]; exact h2.trans g2
  · rw [← List.append_assoc]; exact g3
theorem LxK.cast {tk' : List (Int × BB)} {i2' : Nat} (h : LxK txt l i tk i2) (ht : tk = tk') (hi : i2 = i2') : LxK txt l i tk' i2' := by subst ht hi; exact h
theorem drop_lt {raw r : BB} (h : txt.drop i = raw ++ r) (hr : raw ≠ []) : i < txt.length := by
  have := (cut_ok h hr).1
  have h2 : 0 < raw.length := by cases raw with | nil => exact absurd rfl hr | cons => simp
  omega
def wordOk (w : BB) : Prop := ∃ c w', w = c :: w' ∧ isLet c = true ∧ ∀ x ∈ w, isLD x = true
theorem K_word {raw r : BB} (hw : wordOk raw) (h : txt.drop i = raw ++ r) (ht : txt.length < 100000) (hr : r.takeWhile isLD = []) (hl : l.length ≤ i) (k : LxK txt (l ++ [⟨0, raw, i⟩]) (i + raw.length) tk i2) : LxK txt l i ((0, raw) :: tk) i2 := by
  obtain ⟨c, w', h1, h2, h3⟩ := hw
  have := drop_lt h (by rw [h1]; simp)
  exact LxK.tok (lx_word h ht h1 h2 h3 hr (by omega)) k
theorem K_sign {c : UInt8} {r : BB} (h : txt.drop i = c :: r) (hc : c ∈ sg1 ∨ (c = 45 ∧ ∃ r', r = 32 :: r')) (ht : txt.length < 100000) (hl : l.length ≤ i) (k : LxK txt (l ++ [⟨3, [c], i⟩]) (i + 1) tk i2) : LxK txt l i ((3, [c]) :: tk) i2 := by
  have := drop_lt (raw := [c]) h (by simp)
  exact LxK.tok (lx_sign (raw := [c]) h rfl ht (by omega) (.inl ⟨rfl, hc⟩)) k
theorem K_eqs {r : BB} (h : txt.drop i = 61 :: 61 :: r) (ht : txt.length < 100000) (hl : l.length ≤ i) (k : LxK txt (l ++ [⟨3, [61, 61], i⟩]) (i + 2) tk i2) : LxK txt l i ((3, [61, 61]) :: tk) i2 := by
  have := drop_lt (raw := [61, 61]) h (by simp)
  exact LxK.tok (lx_sign (raw := [61, 61]) h rfl ht (by omega) (.inr rfl)) k
end
theorem may_word {w : BB} (h : mayB w = true) : wordOk w := by
  cases w with
  | nil => cases h
  | cons c r =>
    have h : (decide (r.length + 1 ≤ 12) && isLet c && !(kwB (c :: r)) && r.all isLD) = true := h
    simp only [Bool.and_eq_true] at h
    refine ⟨c, r, rfl, h.1.1.2, fun x hx => ?_⟩
    rw [List.mem_cons] at hx
    rcases hx with rfl | hx
    · unfold isLD; rw [h.1.1.2]; rfl
    · exact List.all_eq_true.1 h.2 x hx
theorem digs_head : ∀ (f u : Nat), u < 10 ^ (f + 1) → 0 < u → ∀ c r, digs f u = c :: r → c.toNat ≠ 48
  | 0, u, h, hu, c, r, hc => by
    have h1 : u < 10 := by simpa using h
    simp only [digs] at hc
    injection hc with hc _
    rw [← hc, u8_dig u h1]; omega
  | f + 1, u, h, hu, c, r, hc => by
    simp only [digs] at hc
    by_cases h1 : u < 10
    · rw [if_pos h1] at hc
      injection hc with hc _
      rw [← hc, u8_dig u h1]; omega
    · rw [if_neg h1] at hc
      have h2 : u / 10 < 10 ^ (f + 1) := by rw [Nat.pow_succ] at h; omega
      cases hd : digs f (u / 10) with
      | nil => exact absurd hd (digs_ok f (u / 10) h2).2.2.1
      | cons c' r' =>
        rw [hd] at hc
        injection hc with hc _
        rw [← hc]
        exact digs_head f (u / 10) h2 (by omega) c' r' hd
theorem itoa_num {n : Int} (h0 : -9223372036854775808 ≤ n) (h1 : n ≤ 9223372036854775807) : ∃ d, numOk (itoaK n) d := by
  have e2 : (10 : Nat) ^ (19 + 1) = 100000000000000000000 := by decide
  have hp := parse_itoa h0 h1
  have hl := itoa_len h0 h1
  by_cases h : n < 0
  · have hi : itoaK n = 45 :: digs 19 n.natAbs := by unfold itoaK; rw [if_pos h]
    have hd := digs_ok 19 n.natAbs (by rw [e2]; omega)
    have hh := digs_head 19 n.natAbs (by rw [e2]; omega) (by omega)
    refine ⟨digs 19 n.natAbs, .inr hi, hd.2.2.1, hd.1, .inr hh, ?_, by omega, n, hp⟩
    intro hc
    rw [hi] at hc
    injection hc with _ hc
    exact hh 48 [] hc (by decide)
  · have hi : itoaK n = digs 19 n.toNat := by unfold itoaK; rw [if_neg h]
    have hd := digs_ok 19 n.toNat (by rw [e2]; omega)
    refine ⟨digs 19 n.toNat, .inl hi, hd.2.2.1, hd.1, ?_, ?_, by omega, n, hp⟩
    · by_cases hz : n.toNat = 0
      · left; rw [hz]; rfl
      · right; exact digs_head 19 n.toNat (by rw [e2]; omega) (by omega)
    · intro hc
      rw [hi] at hc
      have := hd.1 45 (by rw [hc]; simp)
      revert this; decide
theorem tw_dig {r : BB} (h : r.takeWhile isLD = []) : r.takeWhile isDig = [] := by
  cases r with
  | nil => rfl
  | cons c r =>
    rw [List.takeWhile_cons] at h ⊢
    cases hc : isLD c with
    | true => rw [hc] at h; cases h
    | false =>
      have : isDig c = false := by unfold isLD at hc; cases hd : isDig c with | false => rfl | true => rw [hd] at hc; simp at hc
      rw [this]; rfl
def word? (w : BB) : Bool := match w with | [] => false | c :: _ => isLet c && w.all isLD
theorem word_of {w : BB} (h : word? w = true) : wordOk w := by
  cases w with
  | nil => cases h
  | cons c r =>
    have h : (isLet c && (c :: r).all isLD) = true := h
    rw [Bool.and_eq_true] at h
    exact ⟨c, r, rfl, h.1, fun x hx => List.all_eq_true.1 h.2 x hx⟩
theorem cll_word (k : Int) : wordOk (cll k) := by
  unfold cll
  repeat' split
  all_goals exact word_of (by decide)
theorem lex_tree : ∀ (t : TT), okT t → ∀ (txt : BB) (l : List TK) (i : Nat) (r : BB), txt.length < 100000 → l.length ≤ i → Opn l → txt.drop i = txtOf t ++ r → r.takeWhile isLD = [] →
    LxK txt l i (tkOf t) (i + (txtOf t).length)
  | .lf k nm n tx, h, txt, l, i, r, ht, hl, ho, hd, hr => by
    have hlt := drop_lt hd (txt_ne h)
    rcases h with ⟨rfl, h, rfl, rfl⟩ | ⟨rfl, rfl, rfl, h, h'⟩ | ⟨rfl, rfl, rfl, h⟩ | ⟨rfl, rfl, rfl, h⟩ | ⟨rfl, rfl, rfl, rfl⟩ | ⟨rfl, rfl, rfl, rfl⟩
    · have hw := may_word h
      have hd : txt.drop i = nm ++ r := hd
      refine K_word hw hd ht hr hl (LxK.nil ?_)
      obtain ⟨c, w', h1, _⟩ := hw
      rw [h1]; simp; omega
    · obtain ⟨d, hn⟩ := itoa_num h h'
      obtain ⟨l0, x, hlx, hx⟩ := ho
      have hd : txt.drop i = itoaK n ++ r := hd
      refine LxK.tok (lx_num hd ht hn (tw_dig hr) (by omega) hlx hx) (LxK.nil ?_)
      have : 0 < (itoaK n).length := by
        rcases hn.1 with h | h
        · rw [h]; exact List.length_pos_iff.2 hn.2.1
        · rw [h]; simp
      simp; omega
    · rcases h with rfl | rfl
      · exact K_word (raw := [102, 97, 108, 115, 101]) (word_of (by decide)) hd ht hr hl (LxK.nil (by simp; omega))
      · exact K_word (raw := [116, 114, 117, 101]) (word_of (by decide)) hd ht hr hl (LxK.nil (by simp; omega))
    · refine LxK.tok (lx_quote (s := tx) hd ht (by omega) (by omega)) (LxK.nil ?_)
      simp [quotedB]; omega
    · exact K_word (raw := [101, 109, 112, 116, 121]) (word_of (by decide)) hd ht hr hl (LxK.nil (by simp; omega))
    · exact K_word (raw := [117, 110, 105, 116]) (word_of (by decide)) hd ht hr hl (LxK.nil (by simp; omega))
  | .un k a, h, txt, l, i, r, ht, hl, ho, hd, hr => by
    have hlt := drop_lt hd (txt_ne h)
    rcases h.1 with rfl | rfl
    · have e : txtOf (.un 15 a) = [40, 110, 111, 116, 32] ++ txtOf a ++ [41] := rfl
      have ek : tkOf (.un 15 a) = (3, [40]) :: (0, [110, 111, 116]) :: (tkOf a ++ [(3, [41])]) := rfl
      rw [e] at hd ⊢
      rw [ek]
      have d0 : txt.drop i = 40 :: ([110, 111, 116] ++ (32 :: (txtOf a ++ (41 :: r)))) := by rw [hd]; simp
      have d1 := (drop_at d0).2.2
      have d2 := drop_app d1
      have d3 := (drop_at d2).2.2
      have d4 := drop_app d3
      refine K_sign d0 (.inl (by decide)) ht hl ?_
      refine K_word (word_of (by decide)) d1 ht rfl (by simp; omega) ?_
      refine LxK.sp d2 ht ?_
      refine (LxK.app (lex_tree a h.2 txt _ _ _ ht (by simp; omega) ⟨_, _, rfl, rfl⟩ d3 rfl) (fun ts hts => K_sign d4 (.inl (by decide)) ht hts (LxK.nil (by simp at hts ⊢; omega)))).cast rfl ?_
      simp; omega
    · have e : txtOf (.un 16 a) = [108, 101, 110, 40] ++ txtOf a ++ [41] := rfl
      have ek : tkOf (.un 16 a) = (0, [108, 101, 110]) :: (3, [40]) :: (tkOf a ++ [(3, [41])]) := rfl
      rw [e] at hd ⊢
      rw [ek]
      have d0 : txt.drop i = [108, 101, 110] ++ (40 :: (txtOf a ++ (41 :: r))) := by rw [hd]; simp
      have d1 := drop_app d0
      have d2 := (drop_at d1).2.2
      have d3 := drop_app d2
      refine K_word (word_of (by decide)) d0 ht rfl hl ?_
      refine K_sign d1 (.inl (by decide)) ht (by simp; omega) ?_
      refine (LxK.app (lex_tree a h.2 txt _ _ _ ht (by simp; omega) ⟨_, _, rfl, rfl⟩ d2 rfl) (fun ts hts => K_sign d3 (.inl (by decide)) ht hts (LxK.nil (by simp at hts ⊢; omega)))).cast rfl ?_
      simp; omega
  | .bi k a b, h, txt, l, i, r, ht, hl, ho, hd, hr => by
    have hlt := drop_lt hd (txt_ne h)
    by_cases hk : infx k = true
    · have e : txtOf (.bi k a b) = [40] ++ txtOf a ++ ([32] ++ sgn k ++ [32]) ++ txtOf b ++ [41] := by simp only [txtOf, hk, if_true]
      have ek : tkOf (.bi k a b) = (3, [40]) :: (tkOf a ++ (sk k, sgn k) :: (tkOf b ++ [(3, [41])])) := by simp only [tkOf, hk, if_true]
      rw [e] at hd ⊢
      rw [ek]
      have d0 : txt.drop i = 40 :: (txtOf a ++ (32 :: (sgn k ++ (32 :: (txtOf b ++ (41 :: r)))))) := by rw [hd]; simp
      have d1 := (drop_at d0).2.2
      have d2 := drop_app d1
      have d3 := (drop_at d2).2.2
      have d4 := drop_app d3
      have d5 := (drop_at d4).2.2
      have d6 := drop_app d5
      refine K_sign d0 (.inl (by decide)) ht hl ?_
      refine (LxK.app (lex_tree a h.2.1 txt _ _ _ ht (by simp; omega) ⟨_, _, rfl, rfl⟩ d1 rfl) (fun ts hts => LxK.sp d2 ht ?_)).cast rfl (i2 := i + 1 + (txtOf a).length + 1 + (sgn k).length + 1 + (txtOf b).length + 1) (by simp; omega)
      have rest : ∀ x : TK, closedB x.k x.s = false → 0 < (sgn k).length → LxK txt (l ++ [(⟨3, [40], i⟩ : TK)] ++ ts ++ [x]) (i + 1 + (txtOf a).length + 1 + (sgn k).length) (tkOf b ++ [(3, [41])]) (i + 1 + (txtOf a).length + 1 + (sgn k).length + 1 + (txtOf b).length + 1) := by
        intro x hx hs
        refine LxK.sp d4 ht ?_
        exact LxK.app (lex_tree b h.2.2 txt _ _ _ ht (by simp at hts ⊢; omega) ⟨_, _, rfl, hx⟩ d5 rfl) (fun ts' hts' => K_sign d6 (.inl (by decide)) ht hts' (LxK.nil (by simp at hts' ⊢; omega)))
      have hk2 : k = 6 ∨ k = 7 ∨ k = 8 ∨ k = 9 ∨ k = 10 ∨ k = 11 ∨ k = 12 ∨ k = 13 ∨ k = 14 := by
        unfold infx at hk; simp only [Bool.and_eq_true, decide_eq_true_eq] at hk; omega
      have hts2 : (l ++ [(⟨3, [40], i⟩ : TK)] ++ ts).length ≤ i + 1 + (txtOf a).length + 1 := by omega
      rcases hk2 with rfl | rfl | rfl | rfl | rfl | rfl | rfl | rfl | rfl
      · exact K_sign d3 (.inl (by decide)) ht hts2 (rest _ rfl (by decide))
      · exact K_sign d3 (.inr ⟨rfl, _, rfl⟩) ht hts2 (rest _ rfl (by decide))
      · exact K_sign d3 (.inl (by decide)) ht hts2 (rest _ rfl (by decide))
      · exact K_sign d3 (.inl (by decide)) ht hts2 (rest _ rfl (by decide))
      · exact K_word (raw := [109, 111, 100]) (word_of (by decide)) d3 ht rfl hts2 (rest _ rfl (by decide))
      · exact K_eqs d3 ht hts2 (rest _ rfl (by decide))
      · exact K_sign d3 (.inl (by decide)) ht hts2 (rest _ rfl (by decide))
      · exact K_word (raw := [97, 110, 100]) (word_of (by decide)) d3 ht rfl hts2 (rest _ rfl (by decide))
      · exact K_word (raw := [111, 114]) (word_of (by decide)) d3 ht rfl hts2 (rest _ rfl (by decide))
    · have e : txtOf (.bi k a b) = (cll k ++ [40]) ++ txtOf a ++ [44, 32] ++ txtOf b ++ [41] := by simp only [txtOf, hk, if_false]; rfl
      have ek : tkOf (.bi k a b) = (0, cll k) :: (3, [40]) :: (tkOf a ++ (3, [44]) :: (tkOf b ++ [(3, [41])])) := by simp only [tkOf, hk, if_false]; rfl
      rw [e] at hd ⊢
      rw [ek]
      have d0 : txt.drop i = cll k ++ (40 :: (txtOf a ++ (44 :: (32 :: (txtOf b ++ (41 :: r)))))) := by rw [hd]; simp
      have d1 := drop_app d0
      have d2 := (drop_at d1).2.2
      have d3 := drop_app d2
      have d4 := (drop_at d3).2.2
      have d5 := (drop_at d4).2.2
      have d6 := drop_app d5
      have hcl : 0 < (cll k).length := by obtain ⟨c, w, h, _⟩ := cll_word k; rw [h]; simp
      refine K_word (cll_word k) d0 ht rfl hl ?_
      refine K_sign d1 (.inl (by decide)) ht (by simp; omega) ?_
      refine (LxK.app (lex_tree a h.2.1 txt _ _ _ ht (by simp; omega) ⟨_, _, rfl, rfl⟩ d2 rfl) (fun ts hts => K_sign d3 (.inl (by decide)) ht hts (LxK.sp d4 ht ?_))).cast rfl
        (i2 := i + (cll k).length + 1 + (txtOf a).length + 1 + 1 + (txtOf b).length + 1) (by simp; omega)
      exact LxK.app (lex_tree b h.2.2 txt _ _ _ ht (by simp at hts ⊢; omega) ⟨_, _, rfl, rfl⟩ d5 rfl) (fun ts' hts' => K_sign d6 (.inl (by decide)) ht hts' (LxK.nil (by simp at hts' ⊢; omega)))
def progB (t : TT) : BB := [112, 114, 111, 99, 32, 109, 97, 105, 110, 40, 41, 32, 123, 32, 112, 114, 105, 110, 116, 32] ++ txtOf t ++ [59, 32, 115, 116, 111, 112, 32, 125]
def progK (t : TT) : List (Int × BB) := (0, [112, 114, 111, 99]) :: (0, [109, 97, 105, 110]) :: (3, [40]) :: (3, [41]) :: (3, [123]) :: (0, [112, 114, 105, 110, 116]) :: (tkOf t ++ [(3, [59]), (0, [115, 116, 111, 112]), (3, [125])])
theorem word0 {n q k : Nat} {txt r : BB} (h : txt = [112, 114, 111, 99] ++ 32 :: r) (ht : txt.length < 100000) (hn : txt.length + 200 ≤ n) :
    lq5__0 (T n) (q + 1) (k + 1) (.s0 txt true [] 0) = LX n q k txt [⟨0, [112, 114, 111, 99], 0⟩] 4 := by
  rw [lq5__0_e0]
  unfold wq5__0_0
  have h0 : txt.drop 0 = [112, 114, 111, 99] ++ 32 :: r := by rw [List.drop_zero]; exact h
  have h' : txt.drop 0 = 112 :: ([114, 111, 99] ++ 32 :: r) := h0
  obtain ⟨g1, g2, g3⟩ := drop_at h'
  obtain ⟨c1, c2⟩ := cut_ok h0 (by simp)
  rw [show (0 : Int) = ((0 : Nat) : Int) from rfl, bif_t (decide_eq_true (show ((0 : Nat) : Int) < natI txt.length by rw [natI_eq]; omega)), qO_asI _ rfl]
  refine (qO _ g1).trans ?_
  rw [bif_f (by decide), lqd__e0]
  unfold wqd__0
  rw [bif_f (by decide), bif_f (by decide), bif_f (by decide), bif_f (by decide), lletter_ok n (by omega), res_b]
  dsimp only
  rw [bif_t (by decide), runLD n txt ht (by omega) 0 (by omega), res_i]
  dsimp only
  rw [h0, tw_all (by decide) rfl, lqh__e0]
  unfold wqh__0
  rw [qO_asI _ rfl, qO_asI _ rfl]
  refine (gd_t (by rw [decide_eq_true (by simp), decide_eq_true (by simpa using c1)]; rfl)).trans ?_
  refine (gd_t rfl).trans ?_
  rw [c2]
  rfl
theorem prog_len (t : TT) : (progB t).length = (txtOf t).length + 28 := by simp [progB]
theorem plain_tk (l : List TK) : plainRs (whole (l.map cT)) = l.map cT := by
  unfold whole
  rw [List.drop_zero, List.take_length]
  induction l with
  | nil => rfl
  | cons c r ih => exact congrArg (fun x => cT c :: x) ih
theorem tokens_ok {t : TT} (h : okT t) (hl : (txtOf t).length ≤ 16000) : ∃ (l : List TK) (c : Nat), l.map kt = progK t ∧ ∀ n, c ≤ n → T n 11 [.one (sC (progB t))] [] = some (.tup [.one (lC (.im false) 3 (l.map cT)), .one (iC 0), .one (iC 0)], []) := by
  have hpl := prog_len t
  generalize hT : progB t = txt at hpl
  have ht : txt.length < 100000 := by omega
  have d0 : txt.drop 0 = [112, 114, 111, 99] ++ (32 :: ([109, 97, 105, 110] ++ (40 :: (41 :: (32 :: (123 :: (32 :: ([112, 114, 105, 110, 116] ++ (32 :: (txtOf t ++ (59 :: (32 :: ([115, 116, 111, 112] ++ (32 :: [125])))))))))))))) := by
    rw [← hT]; simp [progB]
  have d1 := drop_app d0
  have d2 := (drop_at d1).2.2
  have d3 := drop_app d2
  have d4 := (drop_at d3).2.2
  have d5 := (drop_at d4).2.2
  have d6 := (drop_at d5).2.2
  have d7 := (drop_at d6).2.2
  have d8 := (drop_at d7).2.2
  have d9 := drop_app d8
  have d10 := (drop_at d9).2.2
  have d11 := drop_app d10
  have d12 := (drop_at d11).2.2
  have d13 := (drop_at d12).2.2
  have d14 := drop_app d13
  have d15 := (drop_at d14).2.2
  have K : LxK txt [⟨0, [112, 114, 111, 99], 0⟩] 4 ((0, [109, 97, 105, 110]) :: (3, [40]) :: (3, [41]) :: (3, [123]) :: (0, [112, 114, 105, 110, 116]) :: (tkOf t ++ [(3, [59]), (0, [115, 116, 111, 112]), (3, [125])])) txt.length := by
    refine LxK.sp d1 ht ?_
    refine K_word (word_of (by decide)) d2 ht rfl (by simp) ?_
    refine K_sign d3 (.inl (by decide)) ht (by simp) ?_
    refine K_sign d4 (.inl (by decide)) ht (by simp) ?_
    refine LxK.sp d5 ht ?_
    refine K_sign d6 (.inl (by decide)) ht (by simp) ?_
    refine LxK.sp d7 ht ?_
    refine K_word (word_of (by decide)) d8 ht rfl (by simp) ?_
    refine LxK.sp d9 ht ?_
    refine LxK.app (lex_tree t h txt _ _ _ ht (by simp) ⟨_, _, rfl, rfl⟩ d10 rfl) (fun ts hts => ?_)
    refine K_sign d11 (.inl (by decide)) ht hts ?_
    refine LxK.sp d12 ht ?_
    refine K_word (word_of (by decide)) d13 ht rfl (by simp at hts ⊢; omega) ?_
    refine LxK.sp d14 ht ?_
    refine (K_sign d15 (.inl (by decide)) ht (by simp at hts ⊢; omega) (LxK.nil (by simp at hts ⊢; omega))).cast rfl ?_
    simp; omega
  obtain ⟨ts, h1, ⟨c, h2⟩, h3⟩ := K
  refine ⟨[⟨0, [112, 114, 111, 99], 0⟩] ++ ts, c + txt.length + 300, ?_, fun n hn => ?_⟩
  · rw [List.map_append, h1]; rfl
  · obtain ⟨m, rfl⟩ : ∃ m, n = m + (1 + 1 + c) + 2 := ⟨n - (1 + 1 + c) - 2, by omega⟩
    rw [eq5_]
    unfold tq5_ ttq5_
    rw [natI_eq, bif_f (decide_eq_false (by omega))]
    have hx : txt = [112, 114, 111, 99] ++ 32 :: (txt.drop 5) := by
      have : txt.drop 5 = _ := d2
      rw [this]; rw [List.drop_zero] at d0; exact d0
    have e1 := word0 (n := m + (1 + 1 + c) + 1) (q := m + (1 + 1 + c)) (k := m + 2 + c) hx ht (by omega)
    rw [show m + 2 + c + 1 = m + (1 + 1 + c) + 1 by omega] at e1
    refine e1.trans ?_
    rw [h2 _ _ _ (by omega)]
    unfold LX
    rw [show m + 2 = m + 1 + 1 by omega, lq5__0_e1]
    unfold wq5__0_1
    rw [bif_f (decide_eq_false (show ¬ (txt.length : Int) < natI txt.length by rw [natI_eq]; omega)), plain_tk]
    exact gd_t (decide_eq_true (by omega))
end
end Go.Proofs.YteaaelhndaijoaaDoor
