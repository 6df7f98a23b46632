/- What the functions that the law reaches answer, in plain data. -/
import Derived.Test.YtamcbchinhdniaaGreatDoorTree1
import Derived.Test.YtamcbchinhdniaaGreatDoorAbs9
import Derived.KernelRfl
set_option maxRecDepth 100000
set_option linter.unusedVariables false
set_option linter.unusedSimpArgs false
namespace Go.Proofs.YtamcbchinhdniaaGreatDoor
section
open Go Go.Abs
section
variable {R : Type}
theorem decBs1 (ds : List DS) (p : RowT ds) : decBs [ds] [bx ds p] = some (p, ()) := by
  have h := unbx_bx ds p
  unfold unbx at h
  simp only [decBs, h]
theorem tr_v {vs : VS} {ds : List DS} {o : OR} {x : V} {v : vs.T} {p : RowT ds} {K : (RS.val vs [ds]).T → Option R} {z : Option R} (h : o = some (x, [bx ds p])) (hd : decV vs x = some v) (h2 : K (v, p, ()) = z) : tRes (.val vs [ds]) o K = z := by
  subst h
  simp only [tRes, decR, hd, decBs1]
  exact h2
theorem tr_v0 {vs : VS} {o : OR} {x : V} {v : vs.T} {K : (RS.val vs []).T → Option R} {z : Option R} (h : o = some (x, [])) (hd : decV vs x = some v) (h2 : K (v, ()) = z) : tRes (.val vs []) o K = z := by
  subst h
  simp only [tRes, decR, hd, decBs]
  exact h2
theorem tr_t {vs : List VS} {ds : List DS} {o : OR} {x : List V} {v : VSsT vs} {p : RowT ds} {K : (RS.tup vs [ds]).T → Option R} {z : Option R} (h : o = some (.tup x, [bx ds p])) (hd : decVs vs x = some v) (h2 : K (v, p, ()) = z) : tRes (.tup vs [ds]) o K = z := by
  subst h
  simp only [tRes, decR, hd, decBs1]
  exact h2
theorem tr_t0 {vs : List VS} {o : OR} {x : List V} {v : VSsT vs} {K : (RS.tup vs []).T → Option R} {z : Option R} (h : o = some (.tup x, [])) (hd : decVs vs x = some v) (h2 : K (v, ()) = z) : tRes (.tup vs []) o K = z := by
  subst h
  simp only [tRes, decR, hd, decBs]
  exact h2
theorem tr_b {o : OR} {b : Bool} {K : (RS.val (.one .bool) []).T → Option R} {z : Option R} (h : o = some (.one (bC b), [])) (h2 : K (b, ()) = z) : tRes (.val (.one .bool) []) o K = z := tr_v0 h rfl h2
theorem tr_i {o : OR} {b : Int} {K : (RS.val (.one (.int .i64)) []).T → Option R} {z : Option R} (h : o = some (.one (iC b), [])) (h2 : K (b, ()) = z) : tRes (.val (.one (.int .i64)) []) o K = z := tr_v0 h rfl h2
theorem tr_s {o : OR} {b : BB} {K : (RS.val (.one .str) []).T → Option R} {z : Option R} (h : o = some (.one (sC b), [])) (h2 : K (b, ()) = z) : tRes (.val (.one .str) []) o K = z := tr_v0 h rfl h2
theorem tr_l {k : Nat} {o : OR} {b : Bool} {l : RR} {K : (RS.val (.one (.im k)) []).T → Option R} {z : Option R} (h : o = some (.one (lC (.im b) k l), [])) (h2 : K ((b, l), ()) = z) : tRes (.val (.one (.im k)) []) o K = z :=
  tr_v0 h (by simp [decV, decC, decD]) h2
theorem tr_bp {ds : List DS} {o : OR} {b : Bool} {p : RowT ds} {K : (RS.val (.one .bool) [ds]).T → Option R} {z : Option R} (h : o = some (.one (bC b), [bx ds p])) (h2 : K (b, p, ()) = z) : tRes (.val (.one .bool) [ds]) o K = z := tr_v h rfl h2
theorem tr_ip {ds : List DS} {o : OR} {b : Int} {p : RowT ds} {K : (RS.val (.one (.int .i64)) [ds]).T → Option R} {z : Option R} (h : o = some (.one (iC b), [bx ds p])) (h2 : K (b, p, ()) = z) : tRes (.val (.one (.int .i64)) [ds]) o K = z := tr_v h rfl h2
theorem tr_sp {ds : List DS} {o : OR} {b : BB} {p : RowT ds} {K : (RS.val (.one .str) [ds]).T → Option R} {z : Option R} (h : o = some (.one (sC b), [bx ds p])) (h2 : K (b, p, ()) = z) : tRes (.val (.one .str) [ds]) o K = z := tr_v h rfl h2
theorem tr_lp {ds : List DS} {k : Nat} {o : OR} {b : Bool} {l : RR} {p : RowT ds} {K : (RS.val (.one (.im k)) [ds]).T → Option R} {z : Option R} (h : o = some (.one (lC (.im b) k l), [bx ds p])) (h2 : K ((b, l), p, ()) = z) : tRes (.val (.one (.im k)) [ds]) o K = z :=
  tr_v h (by simp [decV, decC, decD]) h2
theorem tr_up {ds : List DS} {o : OR} {p : RowT ds} {K : (RS.tup [] [ds]).T → Option R} {z : Option R} (h : o = some (.tup [], [bx ds p])) (h2 : K ((), p, ()) = z) : tRes (.tup [] [ds]) o K = z := tr_t h rfl h2
theorem gd_t {b : Bool} {x z : Option R} (h : b = true) (h2 : x = z) : gd b x = z := by subst h; exact h2
theorem bif_t {b : Bool} {x y z : R} (h : b = true) (h2 : x = z) : (bif b then x else y) = z := by subst h; exact h2
theorem bif_f {b : Bool} {x y z : R} (h : b = false) (h2 : y = z) : (bif b then x else y) = z := by subst h; exact h2
theorem qo {β : Type} {o : Option β} {b : β} {K : β → Option R} {z : Option R} (h : o = some b) (h2 : K b = z) : qOpt o K = z := by subst h; exact h2
theorem asI_n (n : Nat) : asI (n : Int) = some n := by unfold asI; simp
theorem asI_of {z : Int} {n : Nat} (h : z = (n : Int)) : asI z = some n := by subst h; exact asI_n n
theorem natI_eq' (n : Nat) : natI n = (n : Int) := rfl
theorem tg_im {b : Bool} {f : Bool → Option R} {g z : Option R} (h : f b = z) : tagI (.im b) f g = z := h
theorem tg_own {f : Bool → Option R} {g z : Option R} (h : g = z) : tagI .own f g = z := h
theorem g63_t {n : Nat} {x z : Option R} (h : n ≤ 1000000) (h2 : x = z) : g63 n x = z := by
  unfold g63; rw [show decide (n ≤ 9223372036854775807) = true from decide_eq_true (by omega)]; exact h2
end
theorem rA_of {ds : List DS} {c n : Nat} {L : RR} {i : Nat} {r : List D} {v : RowT ds} {K : RowT ds → OR} {z : OR} (h : L[i]? = some r) (hl : c + n ≤ r.length) (hd : decRow ds (List.take n (List.drop c r)) = some v) (h2 : K v = z) : rA ds c n L i K = z := by
  unfold rA
  refine qo h ?_
  rw [show decide (n ≤ (List.drop c r).length) = true from decide_eq_true (by simp; omega)]
  simp only [cond_true, tRow, hd]
  exact h2
theorem iR_of {ds : List DS} {c n : Nat} {L : RR} {x : Int} {i : Nat} {r : List D} {v : RowT ds} {K : RowT ds → OR} {z : OR} (hx : x = (i : Int)) (h : L[i]? = some r) (hl : c + n ≤ r.length) (hd : decRow ds (List.take n (List.drop c r)) = some v) (h2 : K v = z) : iR ds c n L x K = z := by
  unfold iR
  exact qo (asI_of hx) (rA_of h hl hd h2)
theorem iV_of {ds : List DS} {c n : Nat} {L : RR} {x : Int} {i : Nat} {r : List D} {v : RowT ds} {K : RowT ds → OR} {z : OR} (hx : x = (i : Int)) (h : L[i]? = some r) (hl : c + n ≤ r.length) (hd : decRow ds (List.take n (List.drop c r)) = some v) (h2 : K v = z) : iV ds c n L x K = z := by
  unfold iV
  refine qo (asI_of hx) (gd_t (decide_eq_true (List.getElem?_eq_some_iff.1 h).1) (qo (b := r) (by rw [Nat.zero_add]; exact h) (gd_t (decide_eq_true hl) ?_)))
  simp only [tRow, hd]
  exact h2
theorem w64_eq {z : Int} (h0 : -9223372036854775808 ≤ z) (h1 : z ≤ 9223372036854775807) : w64 z = z := wrap_i64 h0 h1
theorem w64_n {z : Int} {n : Nat} (h : z = n) (hn : n ≤ 1000000000) : w64 z = (n : Int) := by subst h; exact w64_eq (by omega) (by omega)
theorem whole_eq (l : RR) : whole l = l := by unfold whole; simp
end
section
open Go Go.Abs
def encI (x : Int) : List D := [.int .i64 x]
def Dice (d : RowT sh0) : Prop := ∃ (t : Tag) (l : List Int) (a : Nat), d = ((t, l.map encI), (a : Int), ()) ∧ a ≤ l.length ∧ l.length ≤ 100000000000000000
theorem w64_N {z : Int} {n : Nat} (h : z = n) (hn : n ≤ 1000000000000000000) : w64 z = (n : Int) := by subst h; exact w64_eq (by omega) (by omega)
theorem pickv (x : Int) {k : Nat} (hk : 1 ≤ k) (hk2 : k ≤ 1000000) : wu64 (k : Int) = k ∧ ∃ j : Nat, w64 ((wu64 x).tmod (wu64 (k : Int))) = j ∧ j < k := by
  have hw : wu64 (k : Int) = k := by
    show IntKind.wrap .u64 _ = _
    simp only [IntKind.wrap, IntKind.signed, IntKind.bits]
    simp
    omega
  refine ⟨hw, ?_⟩
  rw [hw]
  have h0 : 0 ≤ wu64 x := by
    show 0 ≤ IntKind.wrap .u64 _
    simp only [IntKind.wrap, IntKind.signed, IntKind.bits]
    simp
    omega
  have h1 : (wu64 x).tmod (k : Int) = (wu64 x) % (k : Int) := Int.tmod_eq_emod_of_nonneg h0
  rw [h1]
  have h2 := Int.emod_nonneg (wu64 x) (show (k : Int) ≠ 0 by omega)
  have h3 := Int.emod_lt_of_pos (wu64 x) (show (0 : Int) < k by omega)
  exact ⟨((wu64 x) % (k : Int)).toNat, by rw [w64_eq (by omega) (by omega)]; omega, by omega⟩
theorem pick (n : Nat) (hn : 3 ≤ n) {k : Nat} (hk : 1 ≤ k) (hk2 : k ≤ 1000000) {d : RowT sh0} (hd : Dice d) :
    ∃ (j : Nat) (d' : RowT sh0), j < k ∧ Dice d' ∧ T n 15 [pE, .one (iC k)] [bx sh0 d] = some (.one (iC j), [bx sh0 d']) := by
  obtain ⟨m, rfl⟩ : ∃ m, n = m + 3 := ⟨n - 3, by omega⟩
  obtain ⟨t, l, a, rfl, ha, hl⟩ := hd
  have hk0 : decide ((k : Int) < 1) = false := decide_eq_false (by omega)
  by_cases hlt : a < l.length
  · have hge : decide ((a : Int) ≥ natI (l.map encI).length) = false := decide_eq_false (by rw [natI_eq']; simp; omega)
    obtain ⟨hw, j, hj, hjk⟩ := pickv (l[a]) hk hk2
    have hnz : (!decide (wu64 (k : Int) = 0)) = true := by rw [hw]; simp; omega
    have hg : (l.map encI)[a]? = some [.int .i64 l[a]] := by rw [List.getElem?_map, List.getElem?_eq_getElem hlt]; rfl
    have hs : w64 ((a : Int) + 1) = ((a + 1 : Nat) : Int) := w64_N (by omega) (by omega)
    have hx : w64 (w64 ((a : Int) + 1) - 1) = (a : Int) := by rw [hs]; exact w64_N (by omega) (by omega)
    cases t with
    | im b =>
      refine ⟨j, ((.im b, l.map encI), ((a + 1 : Nat) : Int), ()), hjk, ⟨_, l, a + 1, rfl, by omega, hl⟩, eqn_ ?_⟩
      refine bif_f hk0 (tg_im (bif_f hge ?_))
      rw [lqn__0_0e]
      refine tg_im (iR_of (v := (l[a], ())) hx hg (by simp) rfl (gd_t hnz ?_))
      dsimp only
      rw [hj, hs]
    | own =>
      refine ⟨j, ((.own, l.map encI), ((a + 1 : Nat) : Int), ()), hjk, ⟨_, l, a + 1, rfl, by omega, hl⟩, eqn_ ?_⟩
      refine bif_f hk0 (tg_own (bif_f hge ?_))
      rw [lqn__0_0e]
      refine tg_own (iV_of (v := (l[a], ())) hx hg (by simp) rfl (gd_t hnz ?_))
      dsimp only
      rw [hj, hs]
  · have hge : decide ((a : Int) ≥ natI (l.map encI).length) = true := decide_eq_true (by rw [natI_eq']; simp; omega)
    refine ⟨0, ((t, l.map encI), (a : Int), ()), by omega, ⟨t, l, a, rfl, ha, hl⟩, eqn_ ?_⟩
    refine bif_f hk0 ?_
    cases t with
    | im b => exact tg_im (bif_t hge rfl)
    | own => exact tg_own (bif_t hge rfl)
end
section
open Go Go.Abs
def labs : List BB := [[119], [120], [121], [122], [111, 107]]
def cars : List (Int × BB) := [(0, []), (1, []), (2, []), (3, []), (4, []), (5, [112, 46, 97]), (5, [112, 46, 98]), (5, [122, 122])]
structure AM where
  lab : BB
  kd : Int
  nm : BB
  nx : Nat
def cM (a : AM) : List D := [.str a.lab, .int .i64 a.kd, .str a.nm, .int .i64 (a.nx : Int)]
def okM (P : Nat) (a : AM) : Prop := a.lab ∈ labs ∧ (a.kd, a.nm) ∈ cars ∧ a.nx < P
def okMs (P : Nat) (l : List AM) : Prop := 1 ≤ l.length ∧ l.length ≤ 3 ∧ (l.map AM.lab).Nodup ∧ ∀ a ∈ l, okM P a
def tyL (s : BB) : RR := [[.str s], [.str [122, 122]]]
def isTy (s : BB) : Prop := s = [112, 46, 97] ∨ s = [112, 46, 98]
theorem roles_ok (n : Nat) (hn : 1 ≤ n) : T n 18 [] [] = some (.one (lC (.im false) 1 [[.str [97]], [.str [98]], [.str [99]], [.str [100]], [.str [101]]]), []) := by
  obtain ⟨m, rfl⟩ : ∃ m, n = m + 1 := ⟨n - 1, by omega⟩
  exact eq17_ rfl
theorem labels_ok (n : Nat) (hn : 1 ≤ n) : T n 40 [] [] = some (.one (lC (.im false) 1 [[.str [119]], [.str [120]], [.str [121]], [.str [122]]]), []) := by
  obtain ⟨m, rfl⟩ : ∃ m, n = m + 1 := ⟨n - 1, by omega⟩
  exact eq19_ rfl
theorem data_ok' (n : Nat) (hn : 4 ≤ n) {d : RowT sh0} (hd : Dice d) : ∃ (k : Int) (d' : RowT sh0), (k, []) ∈ cars ∧ Dice d' ∧ T n 41 [pE] [bx sh0 d] = some (.agg [iC k, sC []], [bx sh0 d']) := by
  obtain ⟨m, rfl⟩ : ∃ m, n = m + 1 := ⟨n - 1, by omega⟩
  obtain ⟨j, d', hj, hd', e⟩ := pick m (by omega) (k := 6) (by omega) (by omega) hd
  have hk : ∃ k : Int, ([[.int .i64 1], [.int .i64 0], [.int .i64 1], [.int .i64 2], [.int .i64 3], [.int .i64 4]] : RR)[j]? = some [.int .i64 k] ∧ (k, ([] : BB)) ∈ cars := by
    match j, hj with
    | 0, _ => exact ⟨1, rfl, by decide⟩
    | 1, _ => exact ⟨0, rfl, by decide⟩
    | 2, _ => exact ⟨1, rfl, by decide⟩
    | 3, _ => exact ⟨2, rfl, by decide⟩
    | 4, _ => exact ⟨3, rfl, by decide⟩
    | 5, _ => exact ⟨4, rfl, by decide⟩
  obtain ⟨k, hk, hkc⟩ := hk
  refine ⟨k, d', hkc, hd', eq1a_ ?_⟩
  refine tr_ip e ?_
  dsimp only
  refine qo (asI_n j) (gd_t (decide_eq_true hj) (qo (b := [.int .i64 k]) ?_ (gd_t rfl rfl)))
  rw [Nat.zero_add]
  exact hk
theorem carries_ok (n : Nat) (hn : 6 ≤ n) (b : Bool) {s : BB} (hs : isTy s) {d : RowT sh0} (hd : Dice d) :
    ∃ (k : Int) (x : BB) (d' : RowT sh0), (k, x) ∈ cars ∧ Dice d' ∧ T n 42 [pE, .one (lC (.im b) 1 (tyL s))] [bx sh0 d] = some (.agg [iC k, sC x], [bx sh0 d']) := by
  obtain ⟨m, rfl⟩ : ∃ m, n = m + 2 := ⟨n - 2, by omega⟩
  obtain ⟨j, d1, hj, hd1, e1⟩ := pick (m + 1) (by omega) (k := 4) (by omega) (by omega) hd
  by_cases h1 : j = 1
  · obtain ⟨i, d2, hi, hd2, e2⟩ := pick (m + 1) (by omega) (k := 2) (by omega) (by omega) hd1
    have hk : ∃ x : BB, (tyL s)[i]? = some [.str x] ∧ ((5 : Int), x) ∈ cars := by
      match i, hi with
      | 0, _ => exact ⟨s, rfl, by rcases hs with rfl | rfl <;> decide⟩
      | 1, _ => exact ⟨_, rfl, by decide⟩
    obtain ⟨x, hx, hxc⟩ := hk
    refine ⟨5, x, d2, hxc, hd2, equ_ ?_⟩
    refine bif_t rfl (tr_ip e1 ?_)
    dsimp only
    refine bif_t (by subst h1; rfl) (tr_ip e2 ?_)
    dsimp only
    exact iR_of (v := (x, ())) rfl hx (by simp) rfl rfl
  · obtain ⟨k, d2, hk, hd2, e2⟩ := data_ok' (m + 1) (by omega) hd1
    refine ⟨k, [], d2, hk, hd2, equ_ ?_⟩
    refine bif_t rfl (tr_ip e1 ?_)
    dsimp only
    refine bif_f (show ((j : Int) == 1) = false from beq_eq_false_iff_ne.2 (by omega)) ?_
    rw [lqu__0_0e]
    refine tr_v e2 rfl rfl
def labAt (q : Nat) : BB := [UInt8.ofNat (119 + q % 4)]
theorem labAt_get (q : Nat) : ([[.str [119]], [.str [120]], [.str [121]], [.str [122]]] : RR)[q % 4]? = some [.str (labAt q)] := by
  unfold labAt
  have : q % 4 < 4 := Nat.mod_lt _ (by omega)
  generalize q % 4 = i at this
  match i, this with
  | 0, _ => rfl
  | 1, _ => rfl
  | 2, _ => rfl
  | 3, _ => rfl
theorem labAt_mem (q : Nat) : labAt q ∈ labs := by
  unfold labAt
  have : q % 4 < 4 := Nat.mod_lt _ (by omega)
  generalize q % 4 = i at this
  match i, this with
  | 0, _ => decide
  | 1, _ => decide
  | 2, _ => decide
  | 3, _ => decide
theorem labAt_ne {q r : Nat} (h : labAt q = labAt r) : q % 4 = r % 4 := by
  unfold labAt at h
  have h1 : q % 4 < 4 := Nat.mod_lt _ (by omega)
  have h2 : r % 4 < 4 := Nat.mod_lt _ (by omega)
  generalize q % 4 = i at *
  generalize r % 4 = j at *
  match i, h1, j, h2 with
  | 0, _, 0, _ => rfl
  | 1, _, 1, _ => rfl
  | 2, _, 2, _ => rfl
  | 3, _, 3, _ => rfl
  | 0, _, 1, _ => cases h
  | 0, _, 2, _ => cases h
  | 0, _, 3, _ => cases h
  | 1, _, 0, _ => cases h
  | 1, _, 2, _ => cases h
  | 1, _, 3, _ => cases h
  | 2, _, 0, _ => cases h
  | 2, _, 1, _ => cases h
  | 2, _, 3, _ => cases h
  | 3, _, 0, _ => cases h
  | 3, _, 1, _ => cases h
  | 3, _, 2, _ => cases h
theorem tmod4 (q : Nat) : ((q : Int)).tmod 4 = ((q % 4 : Nat) : Int) := by
  rw [Int.tmod_eq_emod_of_nonneg (by omega)]; omega
theorem set_app (l : RR) (x y : List D) : l ++ [x].set 0 y = l ++ [y] := rfl
theorem room {l : RR} {k : Nat} (h : l.length ≤ 1000) (hk : k ≤ 1000) : (l.length == l.length && true && decide ((l.length + 1) * k ≤ 140737488355328)) = true := by
  have : (l.length + 1) * k ≤ 1001 * 1000 := Nat.mul_le_mul (by omega) hk
  simp; omega
theorem plainMs : ∀ l : List AM, plainRs (l.map cM) = l.map cM
  | [] => rfl
  | a :: t => by
    simp only [List.map_cons, plainRs, plainMs t]
    rfl
theorem arms_loop (m q : Nat) (hm : 6 ≤ m) (b : Bool) {s : BB} (hs : isTy s) (P : Nat) (hP : 1 ≤ P) (hP2 : P ≤ 1000) (x3 : RowT sh0) (N fr : Nat) (hN : N ≤ 3) (hfr : fr < 4) :
    ∀ (k i : Nat) (l : List AM) (d : RowT sh0), N - i < k → i ≤ N → 1 ≤ i → l.length = i → (∀ a ∈ l, okM P a) → l.map AM.lab = (List.range i).map (fun j => labAt (fr + j)) → Dice d →
      ∃ (l' : List AM) (d' : RowT sh0), okMs P l' ∧ Dice d' ∧ lqh__0_1 (T m) q x3 k b (tyL s) (P : Int) d (l.map cM) (N : Int) (fr : Int) (i : Int) = some (.one (lC (.im false) 4 (l'.map cM)), [bx sh0 d'])
  | 0, i, l, d, h, _, _, _, _, _, _ => by omega
  | k + 1, i, l, d, h, hi, hi1, hl, hok, hlab, hd => by
    by_cases hlt : i < N
    · obtain ⟨kd, x, d1, hc, hd1, e1⟩ := carries_ok m (by omega) b hs hd
      obtain ⟨j, d2, hj, hd2, e2⟩ := pick m (by omega) (k := P) hP (by omega) hd1
      obtain ⟨l', d', h1, h2, h3⟩ := arms_loop m q hm b hs P hP hP2 x3 N fr hN hfr k (i + 1) (l ++ [⟨labAt (fr + i), kd, x, j⟩]) d2 (by omega) (by omega) (by omega) (by simp [hl])
        (by intro a ha; rw [List.mem_append] at ha; rcases ha with ha | ha; exact hok a ha; simp at ha; subst ha; exact ⟨labAt_mem _, hc, hj⟩)
        (by rw [List.map_append, hlab, List.range_succ, List.map_append]; rfl) hd2
      refine ⟨l', d', h1, h2, ?_⟩
      rw [lqh__0_1e]
      refine bif_t (decide_eq_true (by omega)) (tr_l (labels_ok m (by omega)) ?_)
      dsimp only
      have hw : w64 ((fr : Int) + (i : Int)) = ((fr + i : Nat) : Int) := w64_n (by omega) (by omega)
      refine iR_of (i := (fr + i) % 4) (v := (labAt (fr + i), ())) (by rw [hw, tmod4]) (labAt_get _) (by simp) rfl ?_
      dsimp only
      refine tr_v e1 rfl ?_
      dsimp only
      refine tr_ip e2 (gd_t (room (by simp; omega) (by omega)) ?_)
      dsimp only
      rw [set_app, show w64 ((i : Int) + 1) = ((i + 1 : Nat) : Int) from w64_n (by omega) (by omega)]
      rw [show List.map cM l ++ [[D.str (labAt (fr + i)), D.int .i64 kd, D.str x, D.int .i64 (j : Int)]] = List.map cM (l ++ [⟨labAt (fr + i), kd, x, j⟩]) by simp [cM]]
      exact h3
    · obtain rfl : i = N := by omega
      refine ⟨l, d, ⟨by omega, by omega, ?_, hok⟩, hd, ?_⟩
      · rw [hlab]
        rw [List.nodup_iff_pairwise_ne, List.pairwise_map]
        refine List.Pairwise.imp_of_mem (R := fun a b => a < b) ?_ List.pairwise_lt_range
        intro a c ha hc hac e
        have := labAt_ne e
        simp at ha hc
        omega
      · rw [lqh__0_1e]
        refine bif_f (decide_eq_false (by omega)) (gd_t (decide_eq_true (by omega)) ?_)
        rw [whole_eq, plainMs]
theorem arms_ok (n : Nat) (hn : 10 ≤ n) (b : Bool) {s : BB} (hs : isTy s) (P : Nat) (hP : 1 ≤ P) (hP2 : P ≤ 1000) {d : RowT sh0} (hd : Dice d) :
    ∃ (l : List AM) (d' : RowT sh0), okMs P l ∧ Dice d' ∧ T n 19 [pE, .one (lC (.im b) 1 (tyL s)), .one (iC P)] [bx sh0 d] = some (.one (lC (.im false) 4 (l.map cM)), [bx sh0 d']) := by
  obtain ⟨m, rfl⟩ : ∃ m, n = m + 2 := ⟨n - 2, by omega⟩
  obtain ⟨N, d1, hN, hd1, e1⟩ := pick (m + 1) (by omega) (k := 3) (by omega) (by omega) hd
  obtain ⟨fr, d2, hfr, hd2, e2⟩ := pick (m + 1) (by omega) (k := 4) (by omega) (by omega) hd1
  obtain ⟨kd, x, d3, hc, hd3, e3⟩ := carries_ok (m + 1) (by omega) b hs hd2
  obtain ⟨j, d4, hj, hd4, e4⟩ := pick (m + 1) (by omega) (k := P) hP (by omega) hd3
  obtain ⟨l', d', h1, h2, h3⟩ := arms_loop (m + 1) (m + 1) (by omega) b hs P hP hP2 d (N + 1) fr (by omega) hfr m 1 [⟨labAt fr, kd, x, j⟩] d4 (by omega) (by omega) (by omega) rfl
    (by intro a ha; simp at ha; subst ha; exact ⟨labAt_mem _, hc, hj⟩) rfl hd4
  refine ⟨l', d', h1, h2, eqh_ ?_⟩
  refine tr_ip e1 (tr_ip e2 ?_)
  dsimp only
  rw [lqh__0_0e]
  rw [show w64 (1 + (N : Int)) = ((N + 1 : Nat) : Int) from w64_n (by omega) (by omega)]
  refine bif_t (decide_eq_true (by omega)) (tr_l (labels_ok (m + 1) (by omega)) ?_)
  dsimp only
  have hw : w64 ((fr : Int) + 0) = (fr : Int) := w64_n (by omega) (by omega)
  refine iR_of (i := fr % 4) (v := (labAt fr, ())) (by rw [hw, tmod4]) (labAt_get _) (by simp) rfl ?_
  dsimp only
  refine tr_v e3 rfl ?_
  dsimp only
  refine tr_ip e4 (gd_t rfl ?_)
  exact h3
end
section
open Go Go.Abs
def roleAt (k : Nat) : BB := [UInt8.ofNat (97 + k)]
def rolesR (many : Nat) : RR := (List.range many).map fun k => [.str (roleAt k)]
structure PT where
  fr : BB
  to : BB
  t : Bool
  ms : List AM
def cP (p : PT) : List D := [.str p.fr, .str p.to, .sl (.im p.t) 4 (p.ms.map cM)]
def okP (P many : Nat) (p : PT) : Prop := (p.fr = [] ∧ p.to = [] ∧ p.ms = []) ∨ ∃ k m, k < many ∧ m < many ∧ k ≠ m ∧ p.fr = roleAt k ∧ p.to = roleAt m ∧ okMs P p.ms
def okPr (many : Nat) (ps : List PT) : Prop := 2 ≤ many ∧ many ≤ 4 ∧ 1 ≤ ps.length ∧ ps.length ≤ 8 ∧ ∀ p ∈ ps, okP ps.length many p
theorem plainPs : ∀ l : List PT, plainRs (l.map cP) = l.map cP
  | [] => rfl
  | a :: t => by
    simp only [List.map_cons, plainRs, plainPs t]
    rfl
theorem plainStr : ∀ l : List BB, plainRs (l.map fun s => [.str s]) = l.map fun s => [D.str s]
  | [] => rfl
  | a :: t => by
    simp only [List.map_cons, plainRs, plainStr t]
    rfl
theorem plainRoles (many : Nat) : plainRs (rolesR many) = rolesR many := by
  have := plainStr ((List.range many).map roleAt)
  rw [List.map_map] at this
  exact this
theorem rolesR_len (many : Nat) : (rolesR many).length = many := by simp [rolesR]
theorem rolesR_ne {many : Nat} (h : many ≠ 0) : rolesR many ≠ [] := by
  intro e; have := congrArg List.length e; rw [rolesR_len] at this; exact h this
theorem rolesR_get {many k : Nat} (h : k < many) : (rolesR many)[k]? = some [.str (roleAt k)] := by simp [rolesR, h]
theorem g1 {r : RR} (h : r ≠ []) : (r.length == r.length && !r.isEmpty) = true := by
  cases r with
  | nil => exact absurd rfl h
  | cons => simp
theorem g2 (r : RR) : decide (0 + r.length ≤ r.length) = true := by simp
theorem tmodN {q k : Nat} : ((q : Int)).tmod (k : Int) = ((q % k : Nat) : Int) := by
  rw [Int.tmod_eq_emod_of_nonneg (by omega)]; omega
def tgs (r : RR) : Tag × RR := (match r with | [] => .im true | _ => .own, r)
theorem tgs_app (r : RR) (x : List D) : tgs (r ++ [x]) = (.own, r ++ [x]) := by
  cases r <;> rfl
theorem any_loop (m q : Nat) (hm : 10 ≤ m) (b : Bool) {s : BB} (hs : isTy s) (many N : Nat) (h2 : 2 ≤ many) (h4 : many ≤ 4) (hN : N ≤ 6) (hN1 : 1 ≤ N) (x4 : RowT sh0) (z : RowT sh13) :
    ∀ (k i : Nat) (ps : List PT) (d : RowT sh0), N - i < k → i ≤ N → ps.length = i → (∀ p ∈ ps, okP (N + 1) many p) → Dice d →
      ∃ (ps' : List PT) (d' : RowT sh0), okPr many ps' ∧ Dice d' ∧ lqd__0_0 (T m) q x4 k (many : Int) b (tyL s) d z (N : Int) ([112], (.own, rolesR many), tgs (ps.map cP), ()) (i : Int) =
        some (.agg [sC [112], lC (.im false) 1 (rolesR many), lC (.im false) 3 (ps'.map cP)], [bx sh0 d'])
  | 0, i, ps, d, h, _, _, _, _ => by omega
  | k + 1, i, ps, d, h, hi, hl, hok, hd => by
    have hz : (!decide ((many : Int) = 0)) = true := by simp; omega
    by_cases hlt : i < N
    · obtain ⟨j, d1, hj, hd1, e1⟩ := pick m (by omega) (k := many) (by omega) (by omega) hd
      obtain ⟨j2, d2, hj2, hd2, e2⟩ := pick m (by omega) (k := many - 1) (by omega) (by omega) hd1
      obtain ⟨ms, d3, hms, hd3, e3⟩ := arms_ok m (by omega) b hs (N + 1) (by omega) (by omega) hd2
      have hmod : (j + 1 + j2) % many < many := Nat.mod_lt _ (by omega)
      have hne : j ≠ (j + 1 + j2) % many := by
        intro e
        by_cases hq : j + 1 + j2 < many
        · rw [Nat.mod_eq_of_lt hq] at e; omega
        · rw [Nat.mod_eq_sub_mod (by omega), Nat.mod_eq_of_lt (by omega)] at e; omega
      obtain ⟨ps', d', g1', g2', g3⟩ := any_loop m q hm b hs many N h2 h4 hN hN1 x4 z k (i + 1) (ps ++ [⟨roleAt j, roleAt ((j + 1 + j2) % many), false, ms⟩]) d3 (by omega) (by omega) (by simp [hl])
        (by intro a ha; rw [List.mem_append] at ha; rcases ha with ha | ha; exact hok a ha; simp at ha; subst ha; exact .inr ⟨j, _, hj, hmod, hne, rfl, rfl, hms⟩) hd3
      refine ⟨ps', d', g1', g2', ?_⟩
      rw [List.map_append, show List.map cP [⟨roleAt j, roleAt ((j + 1 + j2) % many), false, ms⟩] = [cP ⟨roleAt j, roleAt ((j + 1 + j2) % many), false, ms⟩] from rfl, tgs_app] at g3
      rw [lqd__0_0e]
      refine bif_t (decide_eq_true (by omega)) (tr_ip e1 ?_)
      dsimp only
      rw [show w64 ((many : Int) - 1) = ((many - 1 : Nat) : Int) from w64_n (by omega) (by omega)]
      refine tr_ip e2 (gd_t hz ?_)
      dsimp only
      have hw : w64 (w64 ((j : Int) + 1) + (j2 : Int)) = ((j + 1 + j2 : Nat) : Int) := by rw [show w64 ((j : Int) + 1) = ((j + 1 : Nat) : Int) from w64_n (by omega) (by omega)]; exact w64_n (by omega) (by omega)
      have hx : (w64 (w64 ((j : Int) + 1) + (j2 : Int))).tmod (many : Int) = (((j + 1 + j2) % many : Nat) : Int) := by rw [hw, tmodN]
      have hw2 : w64 ((N : Int) + 1) = ((N + 1 : Nat) : Int) := w64_n (by omega) (by omega)
      have hw3 : w64 ((i : Int) + 1) = ((i + 1 : Nat) : Int) := w64_n (by omega) (by omega)
      cases ps with
      | nil =>
        refine tg_im (tg_own (iV_of (v := (roleAt j, ())) rfl (rolesR_get hj) (by simp) rfl ?_))
        dsimp only
        refine iV_of (v := (roleAt ((j + 1 + j2) % many), ())) hx (rolesR_get hmod) (by simp) rfl ?_
        dsimp only
        rw [hw2]
        refine tr_lp e3 (gd_t rfl ?_)
        dsimp only
        rw [hw3]
        exact g3
      | cons p ps =>
        refine tg_own (tg_own (iV_of (v := (roleAt j, ())) rfl (rolesR_get hj) (by simp) rfl ?_))
        dsimp only
        refine iV_of (v := (roleAt ((j + 1 + j2) % many), ())) hx (rolesR_get hmod) (by simp) rfl ?_
        dsimp only
        rw [hw2]
        refine tr_lp e3 (gd_t (room (by simp only [tgs, List.length_map]; omega) (by omega)) ?_)
        dsimp only
        rw [hw3]
        exact g3
    · obtain rfl : i = N := by omega
      refine ⟨ps ++ [⟨[], [], true, []⟩], d, ⟨h2, h4, by simp, by simp; omega, ?_⟩, hd, ?_⟩
      · intro p hp
        rw [List.mem_append] at hp
        rcases hp with hp | hp
        · rw [List.length_append, hl]; exact hok p hp
        · simp at hp; subst hp; exact .inl ⟨rfl, rfl, rfl⟩
      · rw [lqd__0_0e]
        refine bif_f (decide_eq_false (by omega)) ?_
        cases ps with
        | nil => simp at hl; omega
        | cons p ps =>
          refine tg_own (gd_t (room (by simp only [tgs, List.length_map]; omega) (by omega)) (tg_own (gd_t (g1 (rolesR_ne (by omega))) (gd_t (g1 (by simp [tgs])) (gd_t (g2 _) (gd_t (g2 _) ?_))))))
          simp only [whole_eq, plainRoles]
          rw [set_app, show ([D.str [], D.str [], D.sl (.im true) 4 []] : List D) = cP ⟨[], [], true, []⟩ from rfl]
          rw [show (tgs (List.map cP (p :: ps))).2 ++ [cP ⟨[], [], true, []⟩] = List.map cP (p :: ps ++ [⟨[], [], true, []⟩]) by simp [tgs], plainPs]
theorem take_roles {many : Nat} (h2 : 2 ≤ many) (h4 : many ≤ 4) : List.take (many - 0) (List.drop 0 ([[.str [97]], [.str [98]], [.str [99]], [.str [100]], [.str [101]]] : RR)) = rolesR many := by
  match many, h2, h4 with
  | 2, _, _ => rfl
  | 3, _, _ => rfl
  | 4, _, _ => rfl
theorem any_ok (n : Nat) (hn : 20 ≤ n) (b : Bool) {s : BB} (hs : isTy s) (many : Nat) (h2 : 2 ≤ many) (h4 : many ≤ 4) {d : RowT sh0} (hd : Dice d) :
    ∃ (ps : List PT) (d' : RowT sh0), okPr many ps ∧ Dice d' ∧ T n 16 [pE, .one (sC [112]), .one (iC many), .one (lC (.im b) 1 (tyL s))] [bx sh0 d] =
      some (.agg [sC [112], lC (.im false) 1 (rolesR many), lC (.im false) 3 (ps.map cP)], [bx sh0 d']) := by
  obtain ⟨m, rfl⟩ : ∃ m, n = m + 2 := ⟨n - 2, by omega⟩
  obtain ⟨N, d1, hN, hd1, e1⟩ := pick (m + 1) (by omega) (k := 6) (by omega) (by omega) hd
  obtain ⟨ps, d', g1, g2, g3⟩ := any_loop (m + 1) (m + 1) (by omega) b hs many (N + 1) h2 h4 (by omega) (by omega) d ([], ((.im true), []), ((.im true), []), ()) (m + 1) 0 [] d1 (by omega) (by omega) rfl (by intro p hp; cases hp) hd1
  refine ⟨ps, d', g1, g2, eqd_ ?_⟩
  refine tr_ip e1 (tr_l (roles_ok (m + 1) (by omega)) (qo (asI_n _) ?_))
  dsimp only
  rw [take_roles h2 h4]
  have hl := rolesR_len many
  refine gd_t (decide_eq_true (by simp; omega)) (gd_t ?_ (bif_f ?_ ?_))
  · rw [hl]
    match many, h2, h4 with
    | 2, _, _ => rfl
    | 3, _, _ => rfl
    | 4, _, _ => rfl
  · match many, h2, h4 with
    | 2, _, _ => rfl
    | 3, _, _ => rfl
    | 4, _, _ => rfl
  · rw [lqd__1_0e, show w64 (1 + (N : Int)) = ((N + 1 : Nat) : Int) from w64_n (by omega) (by omega)]
    exact g3
end
section
open Go Go.Abs
def isLet (c : UInt8) : Bool := decide (97 ≤ c.toNat) && decide (c.toNat ≤ 122)
def isDig (c : UInt8) : Bool := decide (48 ≤ c.toNat) && decide (c.toNat ≤ 57)
def isWd (c : UInt8) : Bool := isLet c || isDig c
abbrev u8 (c : UInt8) : V := .one (.d (.int .u8 (natI c.toNat)))
theorem rng (c : UInt8) (lo hi : Nat) : (bif decide (natI c.toNat ≥ (lo : Int)) then (some (.one (bC (decide (natI c.toNat ≤ (hi : Int)))), []) : OR) else rF) = some (.one (bC (decide (lo ≤ c.toNat) && decide (c.toNat ≤ hi))), []) := by
  rw [show decide (natI c.toNat ≥ (lo : Int)) = decide (lo ≤ c.toNat) from decide_eq_decide.2 (by unfold natI; omega), show decide (natI c.toNat ≤ (hi : Int)) = decide (c.toNat ≤ hi) from decide_eq_decide.2 (by unfold natI; omega)]
  cases decide (lo ≤ c.toNat) <;> rfl
theorem f52 (n : Nat) (hn : 1 ≤ n) (c : UInt8) : T n 52 [u8 c] [] = some (.one (bC (isLet c)), []) := by
  obtain ⟨m, rfl⟩ : ∃ m, n = m + 1 := ⟨n - 1, by omega⟩
  exact eq1c_ (rng c 97 122)
theorem f48 (n : Nat) (hn : 1 ≤ n) (c : UInt8) : T n 48 [u8 c] [] = some (.one (bC (isDig c)), []) := by
  obtain ⟨m, rfl⟩ : ∃ m, n = m + 1 := ⟨n - 1, by omega⟩
  exact eq1b_ (rng c 48 57)
theorem f53 (n : Nat) (hn : 2 ≤ n) (c : UInt8) : T n 53 [u8 c] [] = some (.one (bC (isWd c)), []) := by
  obtain ⟨m, rfl⟩ : ∃ m, n = m + 1 := ⟨n - 1, by omega⟩
  refine eq8_ (tr_b (f52 m (by omega) c) ?_)
  unfold isWd
  cases isLet c with
  | true => rfl
  | false => exact tr_b (f48 m (by omega) c) rfl
theorem get_at {tx A R : BB} {c : UInt8} (h : tx = A ++ c :: R) : tx[A.length]? = some c := by subst h; simp
theorem lt_at {tx A R : BB} {c : UInt8} (h : tx = A ++ c :: R) : decide ((A.length : Int) < natI tx.length) = true := by
  subst h; unfold natI; simp; omega
theorem end_at {tx A : BB} (h : tx = A) : decide ((A.length : Int) < natI tx.length) = false := by
  subst h; unfold natI; simp
theorem w_succ {a : Nat} (h : a < 1000000) : w64 ((a : Int) + 1) = ((a + 1 : Nat) : Int) := w64_n (by omega) (by omega)
theorem run_wd (m n : Nat) (hm : 2 ≤ m) (R tx : BB) (hR : R = [] ∨ ∃ c t, R = c :: t ∧ isWd c = false) (hl : tx.length < 100000) : ∀ (w A : BB) (r : Nat), tx = A ++ (w ++ R) → (∀ c ∈ w, isWd c = true) → w.length < r →
    lqp__0_0 (T m) n r tx (A.length : Int) = some (.one (iC ((A.length + w.length : Nat) : Int)), [])
  | [], A, r + 1, ht, hw, hr => by
    rw [lqp__0_0e]
    rcases hR with rfl | ⟨c, t, rfl, hc⟩
    · exact bif_f (end_at (by simpa using ht)) rfl
    · exact bif_t (lt_at ht) (qo (asI_n _) (qo (get_at ht) (tr_b (f53 m hm c) (bif_f hc rfl))))
  | c :: w, A, r + 1, ht, hw, hr => by
    have hA : A.length < 100000 := by
      have := congrArg List.length ht
      simp at this; omega
    rw [lqp__0_0e]
    refine bif_t (lt_at ht) (qo (asI_n _) (qo (get_at ht) (tr_b (f53 m hm c) (bif_t (hw c (List.mem_cons_self ..)) ?_))))
    rw [w_succ (by omega)]
    have ih := run_wd m n hm R tx hR hl w (A ++ [c]) r (by rw [ht]; simp) (fun d hd => hw d (List.mem_cons_of_mem _ hd)) (by simp at hr; omega)
    rw [show (A ++ [c]).length = A.length + 1 by simp] at ih
    rw [ih]
    simp; omega
theorem run_dig (m n : Nat) (hm : 2 ≤ m) (R tx : BB) (hR : R = [] ∨ ∃ c t, R = c :: t ∧ isDig c = false) (hl : tx.length < 100000) : ∀ (w A : BB) (r : Nat), tx = A ++ (w ++ R) → (∀ c ∈ w, isDig c = true) → w.length < r →
    lqq__0_0 (T m) n r tx (A.length : Int) = some (.one (iC ((A.length + w.length : Nat) : Int)), [])
  | [], A, r + 1, ht, hw, hr => by
    rw [lqq__0_0e]
    rcases hR with rfl | ⟨c, t, rfl, hc⟩
    · exact bif_f (end_at (by simpa using ht)) rfl
    · exact bif_t (lt_at ht) (qo (asI_n _) (qo (get_at ht) (tr_b (f48 m (by omega) c) (bif_f hc rfl))))
  | c :: w, A, r + 1, ht, hw, hr => by
    have hA : A.length < 100000 := by
      have := congrArg List.length ht
      simp at this; omega
    rw [lqq__0_0e]
    refine bif_t (lt_at ht) (qo (asI_n _) (qo (get_at ht) (tr_b (f48 m (by omega) c) (bif_t (hw c (List.mem_cons_self ..)) ?_))))
    rw [w_succ (by omega)]
    have ih := run_dig m n hm R tx hR hl w (A ++ [c]) r (by rw [ht]; simp) (fun d hd => hw d (List.mem_cons_of_mem _ hd)) (by simp at hr; omega)
    rw [show (A ++ [c]).length = A.length + 1 by simp] at ih
    rw [ih]
    simp; omega
theorem runW (n : Nat) (hn : 60 ≤ n) (tx A w R : BB) (ht : tx = A ++ (w ++ R)) (hw : ∀ c ∈ w, isWd c = true) (hR : R = [] ∨ ∃ c t, R = c :: t ∧ isWd c = false) (hl : tx.length < 100000) (hm : w.length < 50) :
    T n 50 [.one (sC tx), .one (iC (A.length : Int)), .one (.fn 53 [] [])] [] = some (.one (iC ((A.length + w.length : Nat) : Int)), []) := by
  obtain ⟨m, rfl⟩ : ∃ m, n = m + 1 := ⟨n - 1, by omega⟩
  exact eqp_ (run_wd m m (by omega) R tx hR hl w A m ht hw (by omega))
theorem runD (n : Nat) (hn : 60 ≤ n) (tx A w R : BB) (ht : tx = A ++ (w ++ R)) (hw : ∀ c ∈ w, isDig c = true) (hR : R = [] ∨ ∃ c t, R = c :: t ∧ isDig c = false) (hl : tx.length < 100000) (hm : w.length < 50) :
    T n 50 [.one (sC tx), .one (iC (A.length : Int)), .one (.fn 48 [] [])] [] = some (.one (iC ((A.length + w.length : Nat) : Int)), []) := by
  obtain ⟨m, rfl⟩ : ∃ m, n = m + 1 := ⟨n - 1, by omega⟩
  exact eqq_ (run_dig m m (by omega) R tx hR hl w A m ht hw (by omega))
theorem cut {tx A w R : BB} (ht : tx = A ++ (w ++ R)) : List.take ((A.length + w.length) - A.length) (List.drop A.length tx) = w := by subst ht; simp
theorem cut_ok {tx A w R : BB} (ht : tx = A ++ (w ++ R)) : (decide (A.length ≤ A.length + w.length) && decide (A.length + w.length ≤ tx.length)) = true := by
  subst ht; simp
def tk (k : Int) (w : BB) (a : Nat) : List D := [.int .i64 k, .str w, .int .i64 a]
theorem nb {c : UInt8} {k : Int} (h : (c.toNat : Int) ≠ k) : (natI c.toNat == k) = false := by
  unfold natI; simpa using h
theorem let_rng {c : UInt8} (h : isLet c = true) : 97 ≤ c.toNat ∧ c.toNat ≤ 122 := by
  unfold isLet at h; simpa using h
theorem dig_rng {c : UInt8} (h : isDig c = true) : 48 ≤ c.toNat ∧ c.toNat ≤ 57 := by
  unfold isDig at h; simpa using h
theorem let_wd {c : UInt8} (h : isLet c = true) : isWd c = true := by unfold isWd; rw [h]; rfl
theorem dig_let {c : UInt8} (h : isDig c = true) : isLet c = false := by
  have := dig_rng h
  unfold isLet; simp; omega
theorem guardA (L : RR) (h : L.length ≤ 100000) : (L.length == L.length && true && decide ((L.length + 1) * 32 ≤ 140737488355328)) = true := by
  rw [show decide ((L.length + 1) * 32 ≤ 140737488355328) = true from decide_eq_true (by omega)]; simp
section
variable {m q r : Nat} {tx A w R : BB} {c : UInt8} {L : RR}
theorem lenA (ht : tx = A ++ (w ++ R)) (hl : tx.length < 100000) : A.length < 100000 := by
  have := congrArg List.length ht
  simp at this; omega
theorem lx_head (ht : tx = A ++ c :: R) (hc : c.toNat ≠ 45) :
    lq2__0_1 (T m) (q + 1) (r + 1) tx L (A.length : Int) = lq8__1 (T m) (q + 1) r (q + 1) tx L (A.length : Int) (natI c.toNat) (0, [], (A.length : Int), ()) false := by
  rw [lq2__0_1e]
  exact bif_t (lt_at ht) (qo (asI_n _) (qo (get_at ht) (bif_f (nb (by omega)) rfl)))
theorem lx_blank (ht : tx = A ++ c :: R) (hl : tx.length < 100000) (hc : c = 32 ∨ c = 10) :
    lq2__0_1 (T m) (q + 1) (r + 1) tx L (A.length : Int) = lq2__0_1 (T m) (q + 1) r tx L ((A.length + 1 : Nat) : Int) := by
  have hA := lenA (w := [c]) (R := R) (by simpa using ht) hl
  rw [lx_head ht (by rcases hc with rfl | rfl <;> decide), lq8__1e, w_succ (by omega)]
  rcases hc with rfl | rfl
  · exact bif_t rfl rfl
  · exact bif_f rfl (bif_f rfl (bif_t rfl rfl))
theorem lx_word (hm : 60 ≤ m) (ht : tx = A ++ ((c :: w) ++ R)) (hl : tx.length < 100000) (hc : isLet c = true) (hw : ∀ d ∈ w, isWd d = true)
    (hR : R = [] ∨ ∃ c t, R = c :: t ∧ isWd c = false) (hL : L.length ≤ 100000) (hwl : w.length < 40) :
    lq2__0_1 (T m) (q + 1) (r + 1) tx L (A.length : Int) = lq2__0_1 (T m) (q + 1) r tx (L ++ [tk 0 (c :: w) A.length]) ((A.length + (c :: w).length : Nat) : Int) := by
  have ht' : tx = A ++ c :: (w ++ R) := by rw [ht]; simp
  obtain ⟨r1, r2⟩ := let_rng hc
  rw [lx_head ht' (by omega), lq8__1e]
  refine bif_f (nb (by omega)) (bif_f (nb (by omega)) (bif_f (nb (by omega)) (bif_f (nb (by omega)) ?_)))
  refine tr_b (f52 m (by omega) c) (bif_t hc ?_)
  refine tr_i (runW m hm tx A (c :: w) R ht (fun d hd => by rcases List.mem_cons.1 hd with h | h; rw [h]; exact let_wd hc; exact hw d h) hR hl (by simp; omega)) ?_
  rw [lqe__1e]
  refine qo (asI_n _) (qo (asI_n _) (gd_t (cut_ok ht) (gd_t (guardA L hL) ?_)))
  rw [cut ht]
  rfl
theorem lx_word0 (hm : 60 ≤ m) (ht : tx = (c :: w) ++ R) (hl : tx.length < 100000) (hc : isLet c = true) (hw : ∀ d ∈ w, isWd d = true)
    (hR : R = [] ∨ ∃ c t, R = c :: t ∧ isWd c = false) (hwl : w.length < 40) :
    lq2__0_0 (T m) (q + 1) (r + 1) tx true [] 0 = lq2__0_1 (T m) (q + 1) r tx [tk 0 (c :: w) 0] (((c :: w).length : Nat) : Int) := by
  have ht0 : tx = [] ++ ((c :: w) ++ R) := ht
  have ht' : tx = [] ++ c :: (w ++ R) := by rw [ht]; simp
  obtain ⟨r1, r2⟩ := let_rng hc
  rw [lq2__0_0e]
  refine bif_t (lt_at ht') (qo (asI_n 0) (qo (get_at ht') (bif_f (nb (by omega)) ?_)))
  rw [lq8__0e]
  refine bif_f (nb (by omega)) (bif_f (nb (by omega)) (bif_f (nb (by omega)) (bif_f (nb (by omega)) ?_)))
  refine tr_b (f52 m (by omega) c) (bif_t hc ?_)
  refine tr_i (runW m hm tx [] (c :: w) R ht0 (fun d hd => by rcases List.mem_cons.1 hd with h | h; rw [h]; exact let_wd hc; exact hw d h) hR hl (by simp; omega)) ?_
  rw [lqe__0e]
  refine qo (asI_n 0) (qo (asI_n _) (gd_t (cut_ok ht0) (gd_t rfl ?_)))
  rw [show (0 : Nat) = ([] : BB).length from rfl, cut ht0]
  simp [tk]
theorem lx_num (hm : 60 ≤ m) (ht : tx = A ++ (c :: R)) (hl : tx.length < 100000) (hc : isDig c = true)
    (hR : R = [] ∨ ∃ c t, R = c :: t ∧ isDig c = false) (hL : L.length ≤ 100000) (h54 : T m 54 [.one (sC [c])] [] = some (.one (bC true), [])) :
    lq2__0_1 (T m) (q + 1) (r + 1) tx L (A.length : Int) = lq2__0_1 (T m) (q + 1) r tx (L ++ [tk 1 [c] A.length]) ((A.length + 1 : Nat) : Int) := by
  have ht1 : tx = A ++ ([c] ++ R) := by rw [ht]; simp
  have ht2 : tx = (A ++ [c]) ++ ([] ++ R) := by rw [ht]; simp
  have hA := lenA ht1 hl
  obtain ⟨r1, r2⟩ := dig_rng hc
  have hr := runD m hm tx (A ++ [c]) [] R ht2 (by simp) hR hl (by simp)
  rw [show (A ++ [c]).length + ([] : BB).length = A.length + 1 by simp, show (A ++ [c]).length = A.length + 1 by simp, ← w_succ (by omega)] at hr
  rw [lx_head ht (by omega), lq8__1e]
  refine bif_f (nb (by omega)) (bif_f (nb (by omega)) (bif_f (nb (by omega)) (bif_f (nb (by omega)) ?_)))
  refine tr_b (f52 m (by omega) c) (bif_f (dig_let hc) ?_)
  refine tr_b (f48 m (by omega) c) (bif_t hc ?_)
  refine tr_i hr ?_
  dsimp only
  rw [w_succ (by omega)]
  refine qo (asI_n _) (qo (asI_n _) (gd_t (cut_ok ht1) ?_))
  have hcut := cut ht1
  rw [show ([c] : BB).length = 1 from rfl] at hcut
  rw [hcut]
  refine tr_b h54 (bif_f rfl ?_)
  rw [lqe__1e]
  refine qo (asI_n _) (qo (asI_n _) (gd_t (cut_ok ht1) (gd_t (guardA L hL) ?_)))
  rw [hcut]
  rfl
def sgs : List UInt8 := [40, 41, 123, 125, 44, 59, 58, 46]
theorem cut1 (ht : tx = A ++ c :: R) : List.take ((A.length + 1) - A.length) (List.drop A.length tx) = [c] := by subst ht; simp
theorem cut1_ok (ht : tx = A ++ c :: R) : (decide (A.length ≤ A.length + 1) && decide (A.length + 1 ≤ tx.length)) = true := by
  subst ht; simp
theorem sign_fin (ht : tx = A ++ c :: R) (hc : c ∈ sgs) (hA : A.length < 100000) : lqm__1_0 (T m) q (r + 1) tx (A.length : Int) = some (.one (sC [c]), []) := by
  rw [lqm__1_0e]
  refine qo (asI_n _) (qo (get_at ht) ?_)
  rw [w_succ (by omega)]
  have fin : (qOpt (asI (A.length : Int)) fun o4 => qOpt (asI ((A.length + 1 : Nat) : Int)) fun o5 => (gd (decide (o4 ≤ o5) && decide (o5 ≤ tx.length)) (some ((V.one (sC (List.take (o5 - o4) (List.drop o4 tx)))), ([] : List (List C)))))) = some (.one (sC [c]), []) := by
    refine qo (asI_n _) (qo (asI_n _) (gd_t (cut1_ok ht) ?_))
    rw [cut1 ht]
  simp only [sgs, List.mem_cons, List.not_mem_nil, or_false] at hc
  rcases hc with rfl | rfl | rfl | rfl | rfl | rfl | rfl | rfl
  · exact bif_t rfl fin
  · exact bif_f rfl (bif_t rfl fin)
  · exact bif_f rfl (bif_f rfl (bif_t rfl fin))
  · exact bif_f rfl (bif_f rfl (bif_f rfl (bif_t rfl fin)))
  · exact bif_f rfl (bif_f rfl (bif_f rfl (bif_f rfl (bif_t rfl fin))))
  · exact bif_f rfl (bif_f rfl (bif_f rfl (bif_f rfl (bif_f rfl (bif_t rfl fin)))))
  · exact bif_f rfl (bif_f rfl (bif_f rfl (bif_f rfl (bif_f rfl (bif_f rfl (bif_t rfl fin))))))
  · exact bif_f rfl (bif_f rfl (bif_f rfl (bif_f rfl (bif_f rfl (bif_f rfl (bif_f rfl (bif_t rfl fin)))))))
theorem sign1 (n : Nat) (hn : 3 ≤ n) (ht : tx = A ++ c :: R) (hl : tx.length < 100000) (hc : c ∈ sgs) : T n 56 [.one (sC tx), .one (iC (A.length : Int))] [] = some (.one (sC [c]), []) := by
  obtain ⟨m, rfl⟩ : ∃ m, n = m + 2 := ⟨n - 2, by omega⟩
  have hA := lenA (w := [c]) (R := R) (by simpa using ht) hl
  refine eqm_ ?_
  rw [w_succ (by omega), show w64 ((A.length : Int) + 2) = ((A.length + 2 : Nat) : Int) from w64_n (by omega) (by omega)]
  cases R with
  | nil =>
    have hlen : tx.length = A.length + 1 := by subst ht; simp
    exact bif_f (by unfold natI; rw [hlen]; exact decide_eq_false (by omega)) (sign_fin ht hc (by omega))
  | cons d R =>
    have hlen : tx.length = A.length + 2 + R.length := by subst ht; simp; omega
    have h2 : List.take ((A.length + 2) - A.length) (List.drop A.length tx) = [c, d] := by subst ht; simp
    refine bif_t (by unfold natI; rw [hlen]; exact decide_eq_true (by omega)) ?_
    refine qo (asI_n _) (qo (asI_n _) (gd_t (by rw [hlen]; simp) ?_))
    rw [h2]
    have hf := sign_fin (m := m + 1) (q := m + 1) (r := m) ht hc (by omega)
    simp only [sgs, List.mem_cons, List.not_mem_nil, or_false] at hc
    have e1 : ([c, d] == [61, 61]) = false := by
      rcases hc with rfl | rfl | rfl | rfl | rfl | rfl | rfl | rfl <;> rfl
    have e2 : ([c, d] == [45, 62]) = false := by
      rcases hc with rfl | rfl | rfl | rfl | rfl | rfl | rfl | rfl <;> rfl
    exact bif_f e1 (bif_f e2 hf)
theorem lx_sign (hm : 60 ≤ m) (ht : tx = A ++ c :: R) (hl : tx.length < 100000) (hc : c ∈ sgs) (hL : L.length ≤ 100000) :
    lq2__0_1 (T m) (q + 1) (r + 1) tx L (A.length : Int) = lq2__0_1 (T m) (q + 1) r tx (L ++ [tk 3 [c] A.length]) ((A.length + 1 : Nat) : Int) := by
  have hA := lenA (w := [c]) (R := R) (by simpa using ht) hl
  have h56 := sign1 m (by omega) ht hl hc
  have f : isLet c = false ∧ isDig c = false ∧ 40 ≤ c.toNat ∧ c.toNat ≠ 45 := by
    simp only [sgs, List.mem_cons, List.not_mem_nil, or_false] at hc
    rcases hc with rfl | rfl | rfl | rfl | rfl | rfl | rfl | rfl <;> decide
  obtain ⟨f1, f2, rg1, rg2⟩ := f
  rw [lx_head ht rg2, lq8__1e]
  refine bif_f (nb (by omega)) (bif_f (nb (by omega)) (bif_f (nb (by omega)) (bif_f (nb (by omega)) ?_)))
  refine tr_b (f52 m (by omega) c) (bif_f f1 ?_)
  refine tr_b (f48 m (by omega) c) (bif_f f2 (bif_f rfl (bif_f (nb (by omega)) ?_)))
  refine tr_s h56 (bif_f rfl ?_)
  have hw : w64 ((A.length : Int) + natI (List.length ([c] : BB))) = ((A.length + 1 : Nat) : Int) := w_succ (by omega)
  dsimp only
  rw [hw, lqe__1e]
  refine qo (asI_n _) (qo (asI_n _) (gd_t (cut1_ok ht) (gd_t (guardA L hL) ?_)))
  rw [cut1 ht]
  rfl
theorem lx_arrow (hm : 60 ≤ m) (ht : tx = A ++ 45 :: 62 :: R) (hl : tx.length < 100000) (hL : L.length ≤ 100000) :
    lq2__0_1 (T m) (q + 1) (r + 1) tx L (A.length : Int) = lq2__0_1 (T m) (q + 1) r tx (L ++ [tk 3 [45, 62] A.length]) ((A.length + 2 : Nat) : Int) := by
  obtain ⟨m, rfl⟩ : ∃ k, m = k + 1 := ⟨m - 1, by omega⟩
  have hA := lenA (w := [45]) (R := 62 :: R) (by simpa using ht) hl
  have ht2 : tx = (A ++ [45]) ++ 62 :: R := by rw [ht]; simp
  have ht3 : tx = A ++ ([45, 62] ++ R) := by rw [ht]; simp
  have hlen : tx.length = A.length + 2 + R.length := by subst ht; simp; omega
  have hlt : decide ((A.length + 1 : Nat) < natI tx.length) = true := by unfold natI; rw [hlen]; exact decide_eq_true (by omega)
  have hg : tx[A.length + 1]? = some 62 := by
    have := get_at ht2
    rwa [show (A ++ [(45 : UInt8)]).length = A.length + 1 by simp] at this
  have hcut : List.take ((A.length + 2) - A.length) (List.drop A.length tx) = [45, 62] := cut ht3
  have hcok : (decide (A.length ≤ A.length + 2) && decide (A.length + 2 ≤ tx.length)) = true := cut_ok ht3
  have h56 : T (m + 1) 56 [.one (sC tx), .one (iC (A.length : Int))] [] = some (.one (sC [45, 62]), []) := by
    refine eqm_ ?_
    rw [w_succ (by omega), show w64 ((A.length : Int) + 2) = ((A.length + 2 : Nat) : Int) from w64_n (by omega) (by omega)]
    refine bif_t hlt (qo (asI_n _) (qo (asI_n _) (gd_t hcok ?_)))
    rw [hcut]
    exact bif_f rfl (bif_t rfl rfl)
  rw [lq2__0_1e]
  refine bif_t (lt_at ht) (qo (asI_n _) (qo (get_at ht) (bif_t rfl ?_)))
  rw [w_succ (by omega)]
  refine bif_t hlt (qo (asI_n _) (qo hg (tr_b (f48 (m + 1) (by omega) 62) (bif_f rfl ?_))))
  rw [lq8__1e]
  refine bif_f rfl (bif_f rfl (bif_f rfl (bif_f rfl ?_)))
  refine tr_b (f52 (m + 1) (by omega) 45) (bif_f rfl ?_)
  refine tr_b (f48 (m + 1) (by omega) 45) (bif_f rfl (bif_f rfl (bif_f rfl ?_)))
  refine tr_s h56 (bif_f rfl ?_)
  have hw : w64 ((A.length : Int) + natI (List.length ([45, 62] : BB))) = ((A.length + 2 : Nat) : Int) := w64_n (by show (A.length : Int) + 2 = _; omega) (by omega)
  dsimp only
  rw [hw, lqe__1e]
  refine qo (asI_n _) (qo (asI_n _) (gd_t hcok (gd_t (guardA L hL) ?_)))
  rw [hcut]
  rfl
theorem lx_end : lq2__0_1 (T m) (q + 1) (r + 1) tx L (tx.length : Int) = some (.tup [.one (lC (.im false) 3 (plainRs (whole L))), .one (iC 0), .one (iC 0)], []) := by
  rw [lq2__0_1e]
  exact bif_f (end_at rfl) (gd_t (by simp) rfl)
end
end
section
open Go Go.Abs
theorem okMs1 {P : Nat} {a : AM} (h : okM P a) : okMs P [a] := ⟨by simp, by simp, by simp, fun x hx => by simp at hx; subst hx; exact h⟩
theorem okMs2 {P : Nat} {a b : AM} (h : okM P a) (h' : okM P b) (hn : a.lab ≠ b.lab) : okMs P [a, b] :=
  ⟨by simp, by simp, by simpa using hn, fun x hx => by simp at hx; rcases hx with rfl | rfl; exact h; exact h'⟩
def goRow (i : Nat) (go : BB) (k : Int) (x : BB) (nx : Nat) : List D := [.str (roleAt i), .str (roleAt (i + 1)), .sl .own 4 [[.str go, .int .i64 k, .str x, .int .i64 (nx : Int)]]]
section
variable {m q : Nat} {b : Bool} {s : BB} {x4 : RowT sh0} {z : RowT sh13} {go quit : BB}
theorem r2_step (hm : 10 ≤ m) (hs : isTy s) {M i : Nat} (hM : M ≤ 4) (back : Bool) (hi : i + 1 < M) {P : RR} (hP : P.length ≤ 20) {d : RowT sh0} (hd : Dice d) :
    ∃ (kd : Int) (x : BB) (d' : RowT sh0), (kd, x) ∈ cars ∧ Dice d' ∧ ∀ k, lq0__2_0 (T m) q x4 (k + 1) (M : Int) b (tyL s) d z ([112], (.own, rolesR M), (.own, P), ()) go quit back (i : Int) =
      lq0__2_0 (T m) q x4 k (M : Int) b (tyL s) d' z ([112], (.own, rolesR M), (.own, P ++ [goRow i go kd x (P.length + 1)]), ()) go quit back ((i + 1 : Nat) : Int) := by
  obtain ⟨kd, x, d', hc, hd', e⟩ := carries_ok m (by omega) b hs hd
  refine ⟨kd, x, d', hc, hd', fun k => ?_⟩
  have hw : w64 ((i : Int) + 1) = ((i + 1 : Nat) : Int) := w64_n (by omega) (by omega)
  have hw2 : w64 (natI P.length + 1) = ((P.length + 1 : Nat) : Int) := w64_n (by rw [natI_eq']; omega) (by omega)
  rw [lq0__2_0e, hw]
  refine bif_t (decide_eq_true (by omega)) (tg_own (tg_own (iV_of (v := (roleAt i, ())) rfl (rolesR_get (by omega)) (by simp) rfl ?_)))
  dsimp only
  refine iV_of (v := (roleAt (i + 1), ())) rfl (rolesR_get (by omega)) (by simp) rfl ?_
  dsimp only
  refine tr_v e rfl (gd_t (room (by omega) (by omega)) ?_)
  dsimp only
  rw [hw2]
  rfl
theorem r2_back (hm : 10 ≤ m) {M i : Nat} (hM : M ≤ 4) (h2 : 2 ≤ M) (hi : i + 1 = M) {P : RR} (hP : P.length ≤ 20) {d : RowT sh0} (hd : Dice d) :
    ∃ (kd : Int) (d' : RowT sh0), (kd, []) ∈ cars ∧ Dice d' ∧ ∀ k, lq0__2_0 (T m) q x4 (k + 1) (M : Int) b (tyL s) d z ([112], (.own, rolesR M), (.own, P), ()) go quit true (i : Int) =
      lq0__1_0 (T m) q x4 q (M : Int) d' z ([112], (.own, rolesR M), (.own, P ++ [[.str (roleAt (M - 1)), .str (roleAt 0), .sl .own 4 [[.str [111, 107], .int .i64 kd, .str [], .int .i64 0]]]]), ()) quit := by
  obtain ⟨kd, d', hc, hd', e⟩ := data_ok' m (by omega) hd
  refine ⟨kd, d', hc, hd', fun k => ?_⟩
  have hw : w64 ((i : Int) + 1) = ((i + 1 : Nat) : Int) := w64_n (by omega) (by omega)
  have hw2 : w64 ((M : Int) - 1) = ((M - 1 : Nat) : Int) := w64_n (by omega) (by omega)
  rw [lq0__2_0e, hw, hw2]
  refine bif_f (decide_eq_false (by omega)) (bif_t rfl (tg_own (tg_own (iV_of (v := (roleAt (M - 1), ())) rfl (rolesR_get (by omega)) (by simp) rfl ?_))))
  dsimp only
  have hr := rolesR_get (many := M) (k := 0) (by omega)
  refine gd_t (decide_eq_true (by rw [rolesR_len]; show 0 < M; omega)) (qo (b := [.str (roleAt 0)]) (by simpa using hr) (gd_t rfl ?_))
  show tRes _ _ _ = _
  refine tr_v e rfl (gd_t (room (by omega) (by omega)) ?_)
  rfl
abbrev prV (M : Nat) (ps : List PT) : V := .agg [sC [112], lC (.im false) 1 (rolesR M), lC (.im false) 3 (ps.map cP)]
abbrev pp (i j : Nat) (ms : List AM) : PT := ⟨roleAt i, roleAt j, false, ms⟩
abbrev endP : PT := ⟨[], [], true, []⟩
abbrev row0 (go quit : BB) (k : Int) : List D := [.str (roleAt 0), .str (roleAt 1), .sl .own 4 [[.str go, .int .i64 k, .str [], .int .i64 1], [.str quit, .int .i64 0, .str [], .int .i64 0]]]
theorem t2b (k1 k2 : Int) (d : RowT sh0) : lq0__1_0 (T m) (q + 20) x4 (q + 20) 2 d z ([112], (.own, rolesR 2), (.own, [row0 go quit k1] ++ [[.str (roleAt (2 - 1)), .str (roleAt 0), .sl .own 4 [[.str [111, 107], .int .i64 k2, .str [], .int .i64 0]]]]), ()) quit =
    some (prV 2 [pp 0 1 [⟨go, k1, [], 1⟩, ⟨quit, 0, [], 2⟩], pp 1 0 [⟨[111, 107], k2, [], 0⟩], endP], [bx sh0 d]) := by kernel_rfl
theorem t2n (k1 : Int) (d : RowT sh0) : lq0__2_0 (T m) (q + 20) x4 (q + 20) 2 b (tyL s) d z ([112], (.own, rolesR 2), (.own, [row0 go quit k1]), ()) go quit false 1 =
    some (prV 2 [pp 0 1 [⟨go, k1, [], 0⟩, ⟨quit, 0, [], 1⟩], endP], [bx sh0 d]) := by kernel_rfl
theorem t3b (k1 k2 k3 : Int) (x : BB) (d : RowT sh0) : lq0__1_0 (T m) (q + 20) x4 (q + 20) 3 d z ([112], (.own, rolesR 3), (.own, ([row0 go quit k1] ++ [goRow 1 go k2 x 2]) ++ [[.str (roleAt (3 - 1)), .str (roleAt 0), .sl .own 4 [[.str [111, 107], .int .i64 k3, .str [], .int .i64 0]]]]), ()) quit =
    some (prV 3 [pp 0 1 [⟨go, k1, [], 1⟩, ⟨quit, 0, [], 3⟩], pp 1 2 [⟨go, k2, x, 2⟩], pp 2 0 [⟨[111, 107], k3, [], 0⟩], pp 1 2 [⟨quit, 0, [], 4⟩], endP], [bx sh0 d]) := by kernel_rfl
theorem t3n (k1 k2 : Int) (x : BB) (d : RowT sh0) : lq0__2_0 (T m) (q + 20) x4 (q + 19) 3 b (tyL s) d z ([112], (.own, rolesR 3), (.own, [row0 go quit k1] ++ [goRow 1 go k2 x 2]), ()) go quit false 2 =
    some (prV 3 [pp 0 1 [⟨go, k1, [], 1⟩, ⟨quit, 0, [], 2⟩], pp 1 2 [⟨go, k2, x, 0⟩], pp 1 2 [⟨quit, 0, [], 3⟩], endP], [bx sh0 d]) := by kernel_rfl
theorem t4b (k1 k2 k3 k4 : Int) (x y : BB) (d : RowT sh0) : lq0__1_0 (T m) (q + 20) x4 (q + 20) 4 d z ([112], (.own, rolesR 4), (.own, (([row0 go quit k1] ++ [goRow 1 go k2 x 2]) ++ [goRow 2 go k3 y 3]) ++ [[.str (roleAt (4 - 1)), .str (roleAt 0), .sl .own 4 [[.str [111, 107], .int .i64 k4, .str [], .int .i64 0]]]]), ()) quit =
    some (prV 4 [pp 0 1 [⟨go, k1, [], 1⟩, ⟨quit, 0, [], 4⟩], pp 1 2 [⟨go, k2, x, 2⟩], pp 2 3 [⟨go, k3, y, 3⟩], pp 3 0 [⟨[111, 107], k4, [], 0⟩], pp 1 2 [⟨quit, 0, [], 5⟩], pp 2 3 [⟨quit, 0, [], 6⟩], endP], [bx sh0 d]) := by kernel_rfl
theorem t4n (k1 k2 k3 : Int) (x y : BB) (d : RowT sh0) : lq0__2_0 (T m) (q + 20) x4 (q + 18) 4 b (tyL s) d z ([112], (.own, rolesR 4), (.own, ([row0 go quit k1] ++ [goRow 1 go k2 x 2]) ++ [goRow 2 go k3 y 3]), ()) go quit false 3 =
    some (prV 4 [pp 0 1 [⟨go, k1, [], 1⟩, ⟨quit, 0, [], 3⟩], pp 1 2 [⟨go, k2, x, 2⟩], pp 2 3 [⟨go, k3, y, 0⟩], pp 1 2 [⟨quit, 0, [], 4⟩], pp 2 3 [⟨quit, 0, [], 5⟩], endP], [bx sh0 d]) := by kernel_rfl
end
theorem rounds_tail (m q : Nat) (hm : 10 ≤ m) (b : Bool) {s : BB} (hs : isTy s) {M : Nat} (h2 : 2 ≤ M) (h4 : M ≤ 4) (x4 : RowT sh0) (z : RowT sh13) {go quit : BB} (hg : go ∈ labs) (hq : quit ∈ labs) (hne : go ≠ quit) (back : Bool) {k1 : Int} (hk : (k1, []) ∈ cars) {d : RowT sh0} (hd : Dice d) :
    ∃ (ps : List PT) (d' : RowT sh0), okPr M ps ∧ Dice d' ∧ lq0__2_0 (T m) (q + 20) x4 (q + 20) (M : Int) b (tyL s) d z ([112], (.own, rolesR M), (.own, [row0 go quit k1]), ()) go quit back 1 = some (prV M ps, [bx sh0 d']) := by
  have h0 : ((0 : Int), ([] : BB)) ∈ cars := by decide
  have hok : [111, 107] ∈ labs := by decide
  have ok2 : ∀ {P i j a c x} {k : Int}, i < M → j < M → i ≠ j → (k, x) ∈ cars → a < P → c < P → okP P M (pp i j [⟨go, k, x, a⟩, ⟨quit, 0, [], c⟩]) := fun h1 h2 h3 h4 h5 h6 => .inr ⟨_, _, h1, h2, h3, rfl, rfl, okMs2 ⟨hg, h4, h5⟩ ⟨hq, h0, h6⟩ hne⟩
  have ok1 : ∀ {P i j a l x} {k : Int}, i < M → j < M → i ≠ j → l ∈ labs → (k, x) ∈ cars → a < P → okP P M (pp i j [⟨l, k, x, a⟩]) := fun h1 h2 h3 h4 h5 h6 => .inr ⟨_, _, h1, h2, h3, rfl, rfl, okMs1 ⟨h4, h5, h6⟩⟩
  have oke : ∀ {P}, okP P M endP := .inl ⟨rfl, rfl, rfl⟩
  match M, h2, h4 with
  | 2, _, _ =>
    cases back with
    | true =>
      obtain ⟨k2, d', hc, hd', e⟩ := r2_back (q := q + 20) (b := b) (s := s) (x4 := x4) (z := z) (go := go) (quit := quit) hm (M := 2) (i := 1) (by omega) (by omega) rfl (P := [row0 go quit k1]) (by simp) hd
      refine ⟨_, d', ⟨by omega, by omega, ?_, ?_, ?_⟩, hd', (e (q + 19)).trans (t2b k1 k2 d')⟩
      · simp
      · simp
      · intro p hp
        simp only [List.mem_cons, List.not_mem_nil, or_false] at hp
        rcases hp with rfl | rfl | rfl
        · exact ok2 (by omega) (by omega) (by omega) hk (by simp) (by simp)
        · exact ok1 (by omega) (by omega) (by omega) hok hc (by simp)
        · exact oke
    | false =>
      refine ⟨_, d, ⟨by omega, by omega, ?_, ?_, ?_⟩, hd, t2n k1 d⟩
      · simp
      · simp
      · intro p hp
        simp only [List.mem_cons, List.not_mem_nil, or_false] at hp
        rcases hp with rfl | rfl
        · exact ok2 (by omega) (by omega) (by omega) hk (by simp) (by simp)
        · exact oke
  | 3, _, _ =>
    obtain ⟨k2, x, d1, hc1, hd1, e1⟩ := r2_step (q := q + 20) (b := b) (s := s) (x4 := x4) (z := z) (go := go) (quit := quit) hm hs (M := 3) (i := 1) (by omega) back (by omega) (P := [row0 go quit k1]) (by simp) hd
    cases back with
    | true =>
      obtain ⟨k3, d', hc, hd', e⟩ := r2_back (q := q + 20) (b := b) (s := s) (x4 := x4) (z := z) (go := go) (quit := quit) hm (M := 3) (i := 2) (by omega) (by omega) rfl (P := [row0 go quit k1] ++ [goRow 1 go k2 x 2]) (by simp) hd1
      refine ⟨_, d', ⟨by omega, by omega, ?_, ?_, ?_⟩, hd', (e1 (q + 19)).trans ((e (q + 18)).trans (t3b k1 k2 k3 x d'))⟩
      · simp
      · simp
      · intro p hp
        simp only [List.mem_cons, List.not_mem_nil, or_false] at hp
        rcases hp with rfl | rfl | rfl | rfl | rfl
        · exact ok2 (by omega) (by omega) (by omega) hk (by simp) (by simp)
        · exact ok1 (by omega) (by omega) (by omega) hg hc1 (by simp)
        · exact ok1 (by omega) (by omega) (by omega) hok hc (by simp)
        · exact ok1 (by omega) (by omega) (by omega) hq h0 (by simp)
        · exact oke
    | false =>
      refine ⟨_, d1, ⟨by omega, by omega, ?_, ?_, ?_⟩, hd1, (e1 (q + 19)).trans (t3n k1 k2 x d1)⟩
      · simp
      · simp
      · intro p hp
        simp only [List.mem_cons, List.not_mem_nil, or_false] at hp
        rcases hp with rfl | rfl | rfl | rfl
        · exact ok2 (by omega) (by omega) (by omega) hk (by simp) (by simp)
        · exact ok1 (by omega) (by omega) (by omega) hg hc1 (by simp)
        · exact ok1 (by omega) (by omega) (by omega) hq h0 (by simp)
        · exact oke
  | 4, _, _ =>
    obtain ⟨k2, x, d1, hc1, hd1, e1⟩ := r2_step (q := q + 20) (b := b) (s := s) (x4 := x4) (z := z) (go := go) (quit := quit) hm hs (M := 4) (i := 1) (by omega) back (by omega) (P := [row0 go quit k1]) (by simp) hd
    obtain ⟨k3, y, d2, hc2, hd2, e2⟩ := r2_step (q := q + 20) (b := b) (s := s) (x4 := x4) (z := z) (go := go) (quit := quit) hm hs (M := 4) (i := 2) (by omega) back (by omega) (P := [row0 go quit k1] ++ [goRow 1 go k2 x 2]) (by simp) hd1
    cases back with
    | true =>
      obtain ⟨k4, d', hc, hd', e⟩ := r2_back (q := q + 20) (b := b) (s := s) (x4 := x4) (z := z) (go := go) (quit := quit) hm (M := 4) (i := 3) (by omega) (by omega) rfl (P := ([row0 go quit k1] ++ [goRow 1 go k2 x 2]) ++ [goRow 2 go k3 y 3]) (by simp) hd2
      refine ⟨_, d', ⟨by omega, by omega, ?_, ?_, ?_⟩, hd', (e1 (q + 19)).trans ((e2 (q + 18)).trans ((e (q + 17)).trans (t4b k1 k2 k3 k4 x y d')))⟩
      · simp
      · simp
      · intro p hp
        simp only [List.mem_cons, List.not_mem_nil, or_false] at hp
        rcases hp with rfl | rfl | rfl | rfl | rfl | rfl | rfl
        · exact ok2 (by omega) (by omega) (by omega) hk (by simp) (by simp)
        · exact ok1 (by omega) (by omega) (by omega) hg hc1 (by simp)
        · exact ok1 (by omega) (by omega) (by omega) hg hc2 (by simp)
        · exact ok1 (by omega) (by omega) (by omega) hok hc (by simp)
        · exact ok1 (by omega) (by omega) (by omega) hq h0 (by simp)
        · exact ok1 (by omega) (by omega) (by omega) hq h0 (by simp)
        · exact oke
    | false =>
      refine ⟨_, d2, ⟨by omega, by omega, ?_, ?_, ?_⟩, hd2, (e1 (q + 19)).trans ((e2 (q + 18)).trans (t4n k1 k2 k3 x y d2))⟩
      · simp
      · simp
      · intro p hp
        simp only [List.mem_cons, List.not_mem_nil, or_false] at hp
        rcases hp with rfl | rfl | rfl | rfl | rfl | rfl
        · exact ok2 (by omega) (by omega) (by omega) hk (by simp) (by simp)
        · exact ok1 (by omega) (by omega) (by omega) hg hc1 (by simp)
        · exact ok1 (by omega) (by omega) (by omega) hg hc2 (by simp)
        · exact ok1 (by omega) (by omega) (by omega) hq h0 (by simp)
        · exact ok1 (by omega) (by omega) (by omega) hq h0 (by simp)
        · exact oke
theorem rounds_ok (n : Nat) (hn : 40 ≤ n) (b : Bool) {s : BB} (hs : isTy s) {M : Nat} (h2 : 2 ≤ M) (h4 : M ≤ 4) {d : RowT sh0} (hd : Dice d) :
    ∃ (ps : List PT) (d' : RowT sh0), okPr M ps ∧ Dice d' ∧ T n 17 [pE, .one (sC [112]), .one (iC M), .one (lC (.im b) 1 (tyL s))] [bx sh0 d] = some (prV M ps, [bx sh0 d']) := by
  obtain ⟨q, rfl⟩ : ∃ q, n = q + 20 + 1 := ⟨n - 21, by omega⟩
  obtain ⟨j1, d1, hj1, hd1, e1⟩ := pick (q + 20) (by omega) (k := 2) (by omega) (by omega) hd
  obtain ⟨j2, d2, hj2, hd2, e2⟩ := pick (q + 20) (by omega) (k := 2) (by omega) (by omega) hd1
  obtain ⟨j3, d3, hj3, hd3, e3⟩ := pick (q + 20) (by omega) (k := 2) (by omega) (by omega) hd2
  obtain ⟨k1, d4, hk, hd4, e4⟩ := data_ok' (q + 20) (by omega) hd3
  have hne : labAt j1 ≠ labAt (2 + j2) := fun h => by have := labAt_ne h; omega
  obtain ⟨ps, d', g1', g2', g3⟩ := rounds_tail (q + 20) q (by omega) b hs h2 h4 d ([], ((.im true), []), ((.im true), []), ()) (labAt_mem j1) (labAt_mem (2 + j2)) hne ((j3 : Int) == 1) hk hd4
  refine ⟨ps, d', g1', g2', eq0_ ?_⟩
  refine tr_l (roles_ok (q + 20) (by omega)) (qo (asI_n _) ?_)
  dsimp only
  rw [take_roles h2 h4]
  have hl := rolesR_len M
  refine gd_t (decide_eq_true (by simp; omega)) (gd_t ?_ (bif_f ?_ ?_))
  · rw [hl]
    match M, h2, h4 with
    | 2, _, _ => rfl
    | 3, _, _ => rfl
    | 4, _, _ => rfl
  · match M, h2, h4 with
    | 2, _, _ => rfl
    | 3, _, _ => rfl
    | 4, _, _ => rfl
  · rw [lq0__4_0e]
    refine tr_l (labels_ok (q + 20) (by omega)) (tr_ip e1 ?_)
    dsimp only
    have l1 := labAt_get j1
    rw [Nat.mod_eq_of_lt (by omega)] at l1
    refine iR_of (v := (labAt j1, ())) rfl l1 (by simp) rfl ?_
    dsimp only
    refine tr_l (labels_ok (q + 20) (by omega)) (tr_ip e2 ?_)
    dsimp only
    have l2 := labAt_get (2 + j2)
    rw [Nat.mod_eq_of_lt (by omega)] at l2
    refine iR_of (i := 2 + j2) (v := (labAt (2 + j2), ())) (w64_n (by omega) (by omega)) l2 (by simp) rfl ?_
    dsimp only
    refine tr_ip e3 (tr_v e4 rfl (tg_im (tg_own ?_)))
    dsimp only
    have hr0 := rolesR_get (many := M) (k := 0) (by omega)
    have hr1 := rolesR_get (many := M) (k := 1) (by omega)
    refine gd_t (decide_eq_true (by rw [rolesR_len]; show 0 < M; omega)) (qo (b := [.str (roleAt 0)]) (by simpa using hr0) (gd_t rfl ?_))
    show gd _ _ = _
    refine gd_t (decide_eq_true (by rw [rolesR_len]; show 1 < M; omega)) (qo (b := [.str (roleAt 1)]) (by simpa using hr1) (gd_t rfl ?_))
    show gd _ _ = _
    refine gd_t rfl ?_
    rw [lq0__3_0e]
    exact g3
theorem protocol_ok (n : Nat) (hn : 50 ≤ n) (b : Bool) {s : BB} (hs : isTy s) {d : RowT sh0} (hd : Dice d) :
    ∃ (M : Nat) (ps : List PT) (d' : RowT sh0), okPr M ps ∧ Dice d' ∧ T n 6 [pE, .one (sC [112]), .one (lC (.im b) 1 (tyL s))] [bx sh0 d] = some (prV M ps, [bx sh0 d']) := by
  obtain ⟨m, rfl⟩ : ∃ m, n = m + 1 := ⟨n - 1, by omega⟩
  obtain ⟨j, d1, hj, hd1, e1⟩ := pick m (by omega) (k := 4) (by omega) (by omega) hd
  have hdec : ∀ ps : List PT, ∀ M : Nat, decV (.agg sh1) (prV M ps) = some ([112], (false, rolesR M), (false, ps.map cP), ()) := fun ps M => rfl
  match j, hj with
  | 0, _ =>
    obtain ⟨ps, d', h1, h2, e⟩ := any_ok m (by omega) b hs 2 (by omega) (by omega) hd1
    exact ⟨2, ps, d', h1, h2, eqz_ (tr_ip e1 (bif_t rfl (tr_v e (hdec ps 2) rfl)))⟩
  | 1, _ =>
    obtain ⟨i, d2, hi, hd2, e2⟩ := pick m (by omega) (k := 3) (by omega) (by omega) hd1
    obtain ⟨ps, d', h1, h2, e⟩ := rounds_ok m (by omega) b hs (M := i + 2) (by omega) (by omega) hd2
    refine ⟨i + 2, ps, d', h1, h2, eqz_ (tr_ip e1 (bif_f rfl (bif_t rfl (tr_ip e2 ?_))))⟩
    dsimp only
    rw [show w64 (2 + (i : Int)) = ((i + 2 : Nat) : Int) from w64_n (by omega) (by omega)]
    exact tr_v e (hdec ps (i + 2)) rfl
  | 2, _ =>
    obtain ⟨ps, d', h1, h2, e⟩ := any_ok m (by omega) b hs 3 (by omega) (by omega) hd1
    exact ⟨3, ps, d', h1, h2, eqz_ (tr_ip e1 (bif_f rfl (bif_f rfl (bif_t rfl (tr_v e (hdec ps 3) rfl)))))⟩
  | 3, _ =>
    obtain ⟨ps, d', h1, h2, e⟩ := rounds_ok m (by omega) b hs (M := 3) (by omega) (by omega) hd1
    exact ⟨3, ps, d', h1, h2, eqz_ (tr_ip e1 (bif_f rfl (bif_f rfl (bif_f rfl (tr_v e (hdec ps 3) rfl)))))⟩
structure TN where
  kd : Int
  pr : BB
  t : Bool
  ms : List AM
def cN (p : TN) : List D := [.int .i64 p.kd, .str p.pr, .sl (.im p.t) 4 (p.ms.map cM)]
def okN (P : Nat) (p : TN) : Prop := (p.kd = 0 ∧ p.pr = [] ∧ p.ms = []) ∨ ((p.kd = 1 ∨ p.kd = 2) ∧ (∃ k, k < 2 ∧ p.pr = roleAt k) ∧ okMs P p.ms)
def okLo (ts : List TN) : Prop := 1 ≤ ts.length ∧ ts.length ≤ 6 ∧ ∀ p ∈ ts, okN ts.length p
theorem plainNs : ∀ l : List TN, plainRs (l.map cN) = l.map cN
  | [] => rfl
  | a :: t => by
    simp only [List.map_cons, plainRs, plainNs t]
    rfl
theorem local_loop (m q : Nat) (hm : 10 ≤ m) (b : Bool) {s : BB} (hs : isTy s) (N pe : Nat) (hN : N ≤ 6) (hN1 : 1 ≤ N) (hp : 1 ≤ pe) (hp2 : pe ≤ 2) (x3 : RowT sh0) (z : RowT sh5) :
    ∀ (k i : Nat) (ts : List TN) (d : RowT sh0), N - i < k → i ≤ N → ts.length = i → (∀ p ∈ ts, okN N p) → Dice d →
      ∃ (ts' : List TN) (d' : RowT sh0), okLo ts' ∧ Dice d' ∧ lqa__0_0 (T m) (q + 1) x3 k b (tyL s) d z (N : Int) (pe : Int) ([122, 122], tgs (ts.map cN), ()) (i : Int) =
        some (.agg [sC [122, 122], lC (.im false) 3 (ts'.map cN)], [bx sh0 d'])
  | 0, i, ts, d, h, _, _, _, _ => by omega
  | k + 1, i, ts, d, h, hi, hl, hok, hd => by
    by_cases hlt : i < N
    · have hw3 : w64 ((i : Int) + 1) = ((i + 1 : Nat) : Int) := w64_n (by omega) (by omega)
      obtain ⟨j, d1, hj, hd1, e1⟩ := pick m (by omega) (k := 5) (by omega) (by omega) hd
      by_cases hj0 : j = 0
      · obtain ⟨ts', d', g1', g2', g3⟩ := local_loop m q hm b hs N pe hN hN1 hp hp2 x3 z k (i + 1) (ts ++ [⟨0, [], true, []⟩]) d1 (by omega) (by omega) (by simp [hl])
          (by intro a ha; rw [List.mem_append] at ha; rcases ha with ha | ha; exact hok a ha; simp at ha; subst ha; exact .inl ⟨rfl, rfl, rfl⟩) hd1
        refine ⟨ts', d', g1', g2', ?_⟩
        rw [List.map_append, show List.map cN [⟨0, [], true, []⟩] = [cN ⟨0, [], true, []⟩] from rfl, tgs_app] at g3
        rw [lqa__0_0e]
        refine bif_t (decide_eq_true (by omega)) (tr_ip e1 (bif_t (show ((j : Int) == 0) = true by subst hj0; rfl) ?_))
        cases ts with
        | nil =>
          refine tg_im (gd_t rfl ?_)
          rw [lqa__1_0e, hw3]
          exact g3
        | cons p ts =>
          refine tg_own (gd_t (room (by simp only [tgs, List.length_map]; omega) (by omega)) ?_)
          rw [lqa__1_0e, hw3]
          exact g3
      · obtain ⟨i2, d2, hi2, hd2, e2⟩ := pick m (by omega) (k := pe) hp (by omega) hd1
        obtain ⟨ms, d3, hms, hd3, e3⟩ := arms_ok m (by omega) b hs N (by omega) (by omega) hd2
        have hk : w64 (1 + Int.tmod (j : Int) 2) = ((1 + j % 2 : Nat) : Int) := by
          rw [show (2 : Int) = ((2 : Nat) : Int) from rfl, tmodN]; exact w64_n (by omega) (by omega)
        have hrole : ([[.str [97]], [.str [98]], [.str [99]], [.str [100]], [.str [101]]] : RR)[i2]? = some [.str (roleAt i2)] := by
          have : i2 < 2 := by omega
          match i2, this with
          | 0, _ => rfl
          | 1, _ => rfl
        obtain ⟨ts', d', g1', g2', g3⟩ := local_loop m q hm b hs N pe hN hN1 hp hp2 x3 z k (i + 1) (ts ++ [⟨((1 + j % 2 : Nat) : Int), roleAt i2, false, ms⟩]) d3 (by omega) (by omega) (by simp [hl])
          (by
            intro a ha
            rw [List.mem_append] at ha
            rcases ha with ha | ha
            · exact hok a ha
            · simp at ha; subst ha; exact .inr ⟨by simp only; omega, ⟨i2, by omega, rfl⟩, hms⟩) hd3
        refine ⟨ts', d', g1', g2', ?_⟩
        rw [List.map_append, show List.map cN [⟨((1 + j % 2 : Nat) : Int), roleAt i2, false, ms⟩] = [cN ⟨((1 + j % 2 : Nat) : Int), roleAt i2, false, ms⟩] from rfl, tgs_app] at g3
        rw [lqa__0_0e]
        refine bif_t (decide_eq_true (by omega)) (tr_ip e1 (bif_f (show ((j : Int) == 0) = false from beq_eq_false_iff_ne.2 (by omega)) ?_))
        cases ts with
        | nil =>
          refine tg_im (tr_l (roles_ok m (by omega)) (tr_ip e2 (iR_of (v := (roleAt i2, ())) rfl hrole (by simp) rfl ?_)))
          dsimp only
          refine tr_lp e3 (gd_t rfl ?_)
          dsimp only
          rw [lqa__1_0e, hw3, hk]
          exact g3
        | cons p ts =>
          refine tg_own (tr_l (roles_ok m (by omega)) (tr_ip e2 (iR_of (v := (roleAt i2, ())) rfl hrole (by simp) rfl ?_)))
          dsimp only
          refine tr_lp e3 (gd_t (room (by simp only [tgs, List.length_map]; omega) (by omega)) ?_)
          dsimp only
          rw [lqa__1_0e, hw3, hk]
          exact g3
    · obtain rfl : i = N := by omega
      refine ⟨ts, d, ⟨by omega, by omega, ?_⟩, hd, ?_⟩
      · rw [hl]; exact hok
      · rw [lqa__0_0e]
        refine bif_f (decide_eq_false (by omega)) ?_
        cases ts with
        | nil => simp at hl; omega
        | cons p ts =>
          refine tg_own (gd_t (g1 (by simp [tgs])) (gd_t (g2 _) ?_))
          simp only [whole_eq, tgs]
          rw [plainNs]
theorem local_ok (n : Nat) (hn : 40 ≤ n) (b : Bool) {s : BB} (hs : isTy s) {d : RowT sh0} (hd : Dice d) :
    ∃ (ts : List TN) (d' : RowT sh0), okLo ts ∧ Dice d' ∧ T n 7 [pE, .one (sC [122, 122]), .one (lC (.im b) 1 (tyL s))] [bx sh0 d] = some (.agg [sC [122, 122], lC (.im false) 3 (ts.map cN)], [bx sh0 d']) := by
  obtain ⟨m, rfl⟩ : ∃ m, n = m + 2 := ⟨n - 2, by omega⟩
  obtain ⟨N, d1, hN, hd1, e1⟩ := pick (m + 1) (by omega) (k := 6) (by omega) (by omega) hd
  obtain ⟨pe, d2, hpe, hd2, e2⟩ := pick (m + 1) (by omega) (k := 2) (by omega) (by omega) hd1
  obtain ⟨ts, d', g1, g2, g3⟩ := local_loop (m + 1) m (by omega) b hs (N + 1) (pe + 1) (by omega) (by omega) (by omega) (by omega) d ([], ((.im true), []), ()) (m + 1) 0 [] d2 (by omega) (by omega) rfl (by intro p hp; cases hp) hd2
  refine ⟨ts, d', g1, g2, eqa_ ?_⟩
  refine tr_ip e1 (tr_ip e2 ?_)
  dsimp only
  rw [show w64 (1 + (N : Int)) = ((N + 1 : Nat) : Int) from w64_n (by omega) (by omega), show w64 (1 + (pe : Int)) = ((pe + 1 : Nat) : Int) from w64_n (by omega) (by omega)]
  exact g3
end
section
open Go Go.Abs
def nms : List BB := [[97], [98], [99], [100], [101], [112], [122, 122], [119], [120], [121], [122], [111, 107], [109, 97, 105, 110]]
theorem may_ok (n : Nat) (hn : 40 ≤ n) {x : BB} (hx : x ∈ nms) : T n 20 [.one (sC x)] [] = some (.one (bC true), []) := by
  simp only [nms, List.mem_cons, List.not_mem_nil, or_false] at hx
  rcases hx with rfl | rfl | rfl | rfl | rfl | rfl | rfl | rfl | rfl | rfl | rfl | rfl | rfl
  all_goals (obtain ⟨m, rfl⟩ : ∃ m, n = m + 40 := ⟨n - 40, by omega⟩; kernel_rfl)
theorem tcar_ok (n : Nat) (hn : 60 ≤ n) {k : Int} {x : BB} (hx : (k, x) ∈ cars) : T n 47 [.agg [iC k, sC x]] [] = some (.one (bC true), []) := by
  simp only [cars, List.mem_cons, List.not_mem_nil, or_false, Prod.mk.injEq] at hx
  rcases hx with ⟨rfl, rfl⟩ | ⟨rfl, rfl⟩ | ⟨rfl, rfl⟩ | ⟨rfl, rfl⟩ | ⟨rfl, rfl⟩ | ⟨rfl, rfl⟩ | ⟨rfl, rfl⟩ | ⟨rfl, rfl⟩
  all_goals (obtain ⟨m, rfl⟩ : ∃ m, n = m + 60 := ⟨n - 60, by omega⟩; kernel_rfl)
def carT (k : Int) (x : BB) : BB := if k = 0 then [117, 110, 105, 116] else if k = 1 then [105, 110, 116] else if k = 2 then [98, 111, 111, 108] else if k = 3 then [116, 101, 120, 116] else if k = 4 then [108, 105, 115, 116] else [99, 104, 97, 110, 32] ++ x
theorem pcar_ok (n : Nat) (hn : 80 ≤ n) {k : Int} {x : BB} (hx : (k, x) ∈ cars) : T n 66 [.agg [iC k, sC x]] [] = some (.one (sC (carT k x)), []) := by
  simp only [cars, List.mem_cons, List.not_mem_nil, or_false, Prod.mk.injEq] at hx
  rcases hx with ⟨rfl, rfl⟩ | ⟨rfl, rfl⟩ | ⟨rfl, rfl⟩ | ⟨rfl, rfl⟩ | ⟨rfl, rfl⟩ | ⟨rfl, rfl⟩ | ⟨rfl, rfl⟩ | ⟨rfl, rfl⟩
  all_goals (obtain ⟨m, rfl⟩ : ∃ m, n = m + 80 := ⟨n - 80, by omega⟩; kernel_rfl)
def dg (k : Nat) : BB := [UInt8.ofNat (48 + k)]
theorem dg_ok {p : Nat → BB → Prop} (h : p 0 [48] ∧ p 1 [49] ∧ p 2 [50] ∧ p 3 [51] ∧ p 4 [52] ∧ p 5 [53] ∧ p 6 [54] ∧ p 7 [55] ∧ p 8 [56] ∧ p 9 [57]) {k : Nat} (hk : k < 10) : p k (dg k) := by
  obtain ⟨h0, h1, h2, h3, h4, h5, h6, h7, h8, h9⟩ := h
  match k, hk with
  | 0, _ => exact h0
  | 1, _ => exact h1
  | 2, _ => exact h2
  | 3, _ => exact h3
  | 4, _ => exact h4
  | 5, _ => exact h5
  | 6, _ => exact h6
  | 7, _ => exact h7
  | 8, _ => exact h8
  | 9, _ => exact h9
theorem itoa_ok (n : Nat) (hn : 20 ≤ n) {k : Nat} (hk : k < 10) : T n 34 [.one (iC k)] [] = some (.one (sC (dg k)), []) := by
  refine dg_ok (p := fun k d => T n 34 [.one (iC k)] [] = some (.one (sC d), [])) ?_ hk
  refine ⟨?_, ?_, ?_, ?_, ?_, ?_, ?_, ?_, ?_, ?_⟩
  all_goals (obtain ⟨m, rfl⟩ : ∃ m, n = m + 20 := ⟨n - 20, by omega⟩; kernel_rfl)
theorem num_ok (n : Nat) (hn : 20 ≤ n) {k : Nat} (hk : k < 10) : T n 54 [.one (sC (dg k))] [] = some (.one (bC true), []) := by
  refine dg_ok (p := fun k d => T n 54 [.one (sC d)] [] = some (.one (bC true), [])) ?_ hk
  refine ⟨?_, ?_, ?_, ?_, ?_, ?_, ?_, ?_, ?_, ?_⟩
  all_goals (obtain ⟨m, rfl⟩ : ∃ m, n = m + 20 := ⟨n - 20, by omega⟩; kernel_rfl)
theorem atoi_ok (n : Nat) (hn : 1 ≤ n) {k : Nat} (hk : k < 10) : T n 74 [.one (sC (dg k))] [] = some (.tup [.one (iC k), .one .nili], []) := by
  refine dg_ok (p := fun k d => T n 74 [.one (sC d)] [] = some (.tup [.one (iC k), .one .nili], [])) ?_ hk
  refine ⟨?_, ?_, ?_, ?_, ?_, ?_, ?_, ?_, ?_, ?_⟩
  all_goals (obtain ⟨m, rfl⟩ : ∃ m, n = m + 1 := ⟨n - 1, by omega⟩; kernel_rfl)
theorem once_ok (n : Nat) (hn : 20 ≤ n) (b : Bool) {many : Nat} (h2 : 2 ≤ many) (h4 : many ≤ 4) : T n 21 [.one (lC (.im b) 1 (rolesR many))] [] = some (.one (bC true), []) := by
  obtain ⟨m, rfl⟩ : ∃ m, n = m + 20 := ⟨n - 20, by omega⟩
  have : many = 2 ∨ many = 3 ∨ many = 4 := by omega
  rcases this with rfl | rfl | rfl
  all_goals (show _ = _; kernel_rfl)
theorem has_ok (n : Nat) (hn : 20 ≤ n) (b : Bool) {many k : Nat} (h4 : many ≤ 4) (hk : k < many) : T n 22 [.one (lC (.im b) 1 (rolesR many)), .one (sC (roleAt k))] [] = some (.one (bC true), []) := by
  obtain ⟨m, rfl⟩ : ∃ m, n = m + 20 := ⟨n - 20, by omega⟩
  have h1 : many = 1 ∨ many = 2 ∨ many = 3 ∨ many = 4 := by omega
  have h2 : k = 0 ∨ k = 1 ∨ k = 2 ∨ k = 3 := by omega
  rcases h1 with rfl | rfl | rfl | rfl <;> rcases h2 with rfl | rfl | rfl | rfl <;> first | omega | (show _ = _; kernel_rfl)
theorem lab_nm {x : BB} (h : x ∈ labs) : x ∈ nms := by
  simp only [labs, List.mem_cons, List.not_mem_nil, or_false] at h
  rcases h with rfl | rfl | rfl | rfl | rfl <;> decide
theorem role_nm {k : Nat} (h : k < 4) : roleAt k ∈ nms := by
  match k, h with
  | 0, _ => decide
  | 1, _ => decide
  | 2, _ => decide
  | 3, _ => decide
end
section
open Go Go.Abs
def At (L : RR) (a : Nat) (k : Int) (w : BB) : Prop := ∃ p : Int, L[a]? = some [.int .i64 k, .str w, .int .i64 p]
def Ats (L : RR) : Nat → List (Int × BB) → Prop
  | _, [] => True
  | a, (k, w) :: t => At L a k w ∧ Ats L (a + 1) t
theorem Ats_app {L : RR} : ∀ {a : Nat} {x y : List (Int × BB)}, Ats L a (x ++ y) ↔ Ats L a x ∧ Ats L (a + x.length) y
  | a, [], y => by simp [Ats]
  | a, (k, w) :: t, y => by
    show At L a k w ∧ Ats L (a + 1) (t ++ y) ↔ _
    rw [Ats_app, show a + 1 + t.length = a + ((k, w) :: t).length by simp; omega]
    exact and_assoc.symm
abbrev PB (b : Bool) (L : RR) (a : Nat) (e : Int) (rst : RowT sh19) : RowT sh11 := ((b, L), (a : Int), e, (-1 : Int), rst)
section
variable {m a : Nat} {b : Bool} {L : RR} {e : Int} {rst : RowT sh19} {k : Int} {w s : BB} {z : OR}
theorem At.lt (h : At L a k w) : a < L.length := by
  obtain ⟨p, h⟩ := h
  exact (List.getElem?_eq_some_iff.1 h).1
theorem cfailed (hm : 1 ≤ m) {K : Bool × RowT sh11 × Unit → OR} (h : K (false, PB b L a e rst, ()) = z) : c32 (T m) (PB b L a e rst) K = z := by
  obtain ⟨m, rfl⟩ : ∃ n, m = n + 1 := ⟨m - 1, by omega⟩
  exact tr_bp (eq15_ rfl) h
theorem cmore (hm : 2 ≤ m) (ht : At L a k w) {K : Bool × RowT sh11 × Unit → OR} (h : K (true, PB b L a e rst, ()) = z) : c26 (T m) (PB b L a e rst) K = z := by
  obtain ⟨m, rfl⟩ : ∃ n, m = n + 1 := ⟨m - 1, by omega⟩
  refine tr_bp (eq11_ (cfailed (by omega) (bif_t rfl ?_))) h
  dsimp only
  rw [show decide ((a : Int) < natI L.length) = true from decide_eq_true (by have := ht.lt; unfold natI; omega)]
theorem cmore_no (hm : 2 ≤ m) (ht : a = L.length) {K : Bool × RowT sh11 × Unit → OR} (h : K (false, PB b L a e rst, ()) = z) : c26 (T m) (PB b L a e rst) K = z := by
  obtain ⟨m, rfl⟩ : ∃ n, m = n + 1 := ⟨m - 1, by omega⟩
  refine tr_bp (eq11_ (cfailed (by omega) (bif_t rfl ?_))) h
  dsimp only
  rw [show decide ((a : Int) < natI L.length) = false from decide_eq_false (by unfold natI; omega)]
theorem iW {K : BB × Unit → OR} (ht : At L a k w) (h : K (w, ()) = z) : iR [.str] 1 1 L (a : Int) K = z := by
  obtain ⟨p, ht⟩ := ht
  exact iR_of rfl ht (by simp) rfl h
theorem iK {K : Int × Unit → OR} (ht : At L a k w) (h : K (k, ()) = z) : iR sh4 0 1 L (a : Int) K = z := by
  obtain ⟨p, ht⟩ := ht
  exact iR_of rfl ht (by simp) rfl h
theorem cis_no (hm : 3 ≤ m) (ht : At L a k w) (hs : (w == s) = false) {K : Bool × RowT sh11 × Unit → OR} (h : K (false, PB b L a e rst, ()) = z) : c57 (T m) s (PB b L a e rst) K = z := by
  obtain ⟨m, rfl⟩ : ∃ n, m = n + 1 := ⟨m - 1, by omega⟩
  exact tr_bp (eq10_ (cmore (by omega) ht (bif_t rfl (iW ht (bif_f hs rfl))))) h
theorem cis_no1 (hm : 3 ≤ m) (ht : At L a 1 w) {K : Bool × RowT sh11 × Unit → OR} (h : K (false, PB b L a e rst, ()) = z) : c57 (T m) s (PB b L a e rst) K = z := by
  by_cases hs : (w == s) = true
  · obtain ⟨m, rfl⟩ : ∃ n, m = n + 1 := ⟨m - 1, by omega⟩
    exact tr_bp (eq10_ (cmore (by omega) ht (bif_t rfl (iW ht (bif_t hs (iK ht (bif_f rfl (iK ht rfl)))))))) h
  · exact cis_no hm ht (by simpa using hs) h
theorem cis (hm : 3 ≤ m) (ht : At L a k s) (hk : k = 0 ∨ k = 3) {K : Bool × RowT sh11 × Unit → OR} (h : K (true, PB b L a e rst, ()) = z) : c57 (T m) s (PB b L a e rst) K = z := by
  obtain ⟨m, rfl⟩ : ∃ n, m = n + 1 := ⟨m - 1, by omega⟩
  rcases hk with rfl | rfl
  · exact tr_bp (eq10_ (cmore (by omega) ht (bif_t rfl (iW ht (bif_t (beq_self_eq_true s) (iK ht (bif_t rfl rfl))))))) h
  · exact tr_bp (eq10_ (cmore (by omega) ht (bif_t rfl (iW ht (bif_t (beq_self_eq_true s) (iK ht (bif_f rfl (iK ht rfl)))))))) h
theorem ctake_no (hm : 4 ≤ m) (ht : At L a k w) (hs : (w == s) = false) {K : Bool × RowT sh11 × Unit → OR} (h : K (false, PB b L a e rst, ()) = z) : c27 (T m) s (PB b L a e rst) K = z := by
  obtain ⟨m, rfl⟩ : ∃ n, m = n + 1 := ⟨m - 1, by omega⟩
  exact tr_bp (eq14_ (cis_no (by omega) ht hs (bif_t rfl rfl))) h
theorem ctake (hm : 4 ≤ m) (ha : a < 100000) (ht : At L a k s) (hk : k = 0 ∨ k = 3) {K : Bool × RowT sh11 × Unit → OR} (h : K (true, PB b L (a + 1) e rst, ()) = z) : c27 (T m) s (PB b L a e rst) K = z := by
  obtain ⟨m, rfl⟩ : ∃ n, m = n + 1 := ⟨m - 1, by omega⟩
  refine tr_bp (eq14_ (cis (by omega) ht hk (bif_f rfl ?_))) h
  dsimp only
  rw [show w64 ((a : Int) + 1) = ((a + 1 : Nat) : Int) from w64_n (by omega) (by omega)]
theorem cneed (hm : 5 ≤ m) (ha : a < 100000) (ht : At L a k s) (hk : k = 0 ∨ k = 3) {K : Unit × RowT sh11 × Unit → OR} (h : K ((), PB b L (a + 1) e rst, ()) = z) : c59 (T m) s (PB b L a e rst) K = z := by
  obtain ⟨m, rfl⟩ : ∃ n, m = n + 1 := ⟨m - 1, by omega⟩
  exact tr_up (eq1e_ (ctake (by omega) ha ht hk (bif_f rfl rfl))) h
theorem cname (hm : 50 ≤ m) (ha : a < 100000) (ht : At L a 0 w) (hw : w ∈ nms) {K : BB × RowT sh11 × Unit → OR} (h : K (w, PB b L (a + 1) e rst, ()) = z) : c58 (T m) (PB b L a e rst) K = z := by
  obtain ⟨m, rfl⟩ : ∃ n, m = n + 2 := ⟨m - 2, by omega⟩
  refine tr_sp (eq1d_ (tr_bp (b := true) (p := PB b L a e rst) (eq1g_ (cmore (by omega) ht (bif_t rfl (iK ht (bif_t rfl (iW ht (tr_b (may_ok m (by omega) hw) rfl))))))) (bif_f rfl ?_))) h
  dsimp only
  have hw1 : w64 ((a : Int) + 1) = ((a + 1 : Nat) : Int) := w64_n (by omega) (by omega)
  rw [hw1, show w64 (((a + 1 : Nat) : Int) - 1) = (a : Int) from w64_n (by omega) (by omega)]
  exact iW ht rfl
theorem tr_err {o : OR} {z : Int} {K : (Int × Bool × Unit) × Unit → OR} {y : OR} (h : o = some (.tup [.one (iC z), .one .nili], [])) (h2 : K ((z, true, ()), ()) = y) : tRes (.tup [.one (.int .i64), .ifc] []) o K = y := by
  subst h; exact h2
theorem cplace (hm : 20 ≤ m) (ha : a < 100000) {i : Nat} (hi : i < 10) (ht : At L a 1 (dg i)) {x : Int} (hx : x < 0 ∨ x = i) {K : Int × RowT sh11 × Unit → OR} (h : K ((i : Int), PB b L (a + 1) e rst, ()) = z) : c60 (T m) x (PB b L a e rst) K = z := by
  obtain ⟨m, rfl⟩ : ∃ n, m = n + 1 := ⟨m - 1, by omega⟩
  have hw1 : w64 ((a : Int) + 1) = ((a + 1 : Nat) : Int) := w64_n (by omega) (by omega)
  refine tr_ip (eqv_ (cmore (by omega) ht (bif_t rfl (iK ht (bif_t rfl (iW ht (tr_err (atoi_ok m (by omega) hi) ?_))))))) h
  dsimp only
  rw [hw1]
  refine bif_t rfl (bif_t (show decide ((i : Int) ≥ 0) = true from decide_eq_true (by omega)) (bif_t (show decide ((i : Int) ≤ 999) = true from decide_eq_true (by omega)) ?_))
  rcases hx with hx | hx
  · exact bif_t (decide_eq_true hx) rfl
  · exact bif_f (show decide (x < 0) = false from decide_eq_false (by omega)) (bif_t (by rw [hx]; exact beq_self_eq_true _) rfl)
def carToks (k : Int) (x : BB) : List (Int × BB) :=
  if k = 0 then [(0, [117, 110, 105, 116])] else if k = 1 then [(0, [105, 110, 116])] else if k = 2 then [(0, [98, 111, 111, 108])] else if k = 3 then [(0, [116, 101, 120, 116])]
  else if k = 4 then [(0, [108, 105, 115, 116])] else if x = [122, 122] then [(0, [99, 104, 97, 110]), (0, x)] else [(0, [99, 104, 97, 110]), (0, x.take 1), (3, [46]), (0, x.drop 2)]
theorem ccarries (hm : 60 ≤ m) (ha : a < 90000) {x : BB} (hx : (k, x) ∈ cars) (ht : Ats L a (carToks k x ++ [(3, [41])])) {K : (Int × BB × Unit) × RowT sh11 × Unit → OR} (h : K ((k, x, ()), PB b L (a + (carToks k x).length) e rst, ()) = z) : c62 (T m) (PB b L a e rst) K = z := by
  have : T m 62 [pE] [bx sh11 (PB b L a e rst)] = some (.agg [iC k, sC x], [bx sh11 (PB b L (a + (carToks k x).length) e rst)]) := by
    obtain ⟨m, rfl⟩ : ∃ n, m = n + 1 := ⟨m - 1, by omega⟩
    simp only [cars, List.mem_cons, List.not_mem_nil, or_false, Prod.mk.injEq] at hx
    rcases hx with ⟨rfl, rfl⟩ | ⟨rfl, rfl⟩ | ⟨rfl, rfl⟩ | ⟨rfl, rfl⟩ | ⟨rfl, rfl⟩ | ⟨rfl, rfl⟩ | ⟨rfl, rfl⟩ | ⟨rfl, rfl⟩
    · obtain ⟨t1, _⟩ := ht
      exact eqw_ (ctake (by omega) (by omega) t1 (.inl rfl) (bif_t rfl rfl))
    · obtain ⟨t1, _⟩ := ht
      exact eqw_ (ctake_no (by omega) t1 rfl (bif_f rfl (ctake (by omega) (by omega) t1 (.inl rfl) (bif_t rfl rfl))))
    · obtain ⟨t1, _⟩ := ht
      exact eqw_ (ctake_no (by omega) t1 rfl (bif_f rfl (ctake_no (by omega) t1 rfl (bif_f rfl (ctake (by omega) (by omega) t1 (.inl rfl) (bif_t rfl rfl))))))
    · obtain ⟨t1, _⟩ := ht
      exact eqw_ (ctake_no (by omega) t1 rfl (bif_f rfl (ctake_no (by omega) t1 rfl (bif_f rfl (ctake_no (by omega) t1 rfl (bif_f rfl (ctake (by omega) (by omega) t1 (.inl rfl) (bif_t rfl rfl))))))))
    · obtain ⟨t1, _⟩ := ht
      exact eqw_ (ctake_no (by omega) t1 rfl (bif_f rfl (ctake_no (by omega) t1 rfl (bif_f rfl (ctake_no (by omega) t1 rfl (bif_f rfl (ctake_no (by omega) t1 rfl (bif_f rfl (ctake (by omega) (by omega) t1 (.inl rfl) (bif_t rfl rfl))))))))))
    · obtain ⟨t1, t2, t3, t4, _⟩ := ht
      refine eqw_ (ctake_no (by omega) t1 rfl (bif_f rfl (ctake_no (by omega) t1 rfl (bif_f rfl (ctake_no (by omega) t1 rfl (bif_f rfl (ctake_no (by omega) t1 rfl (bif_f rfl (ctake_no (by omega) t1 rfl (bif_f rfl (cneed (by omega) (by omega) t1 (.inl rfl) (cname (by omega) (by omega) t2 (by decide) (ctake (by omega) (by omega) t3 (.inr rfl) (bif_t rfl ?_))))))))))))))
      exact g63_t (show (2 : Nat) ≤ 1000000 by decide) (cname (by omega) (by omega) t4 (by decide) (g63_t (show (3 : Nat) ≤ 1000000 by decide) rfl))
    · obtain ⟨t1, t2, t3, t4, _⟩ := ht
      refine eqw_ (ctake_no (by omega) t1 rfl (bif_f rfl (ctake_no (by omega) t1 rfl (bif_f rfl (ctake_no (by omega) t1 rfl (bif_f rfl (ctake_no (by omega) t1 rfl (bif_f rfl (ctake_no (by omega) t1 rfl (bif_f rfl (cneed (by omega) (by omega) t1 (.inl rfl) (cname (by omega) (by omega) t2 (by decide) (ctake (by omega) (by omega) t3 (.inr rfl) (bif_t rfl ?_))))))))))))))
      exact g63_t (show (2 : Nat) ≤ 1000000 by decide) (cname (by omega) (by omega) t4 (by decide) (g63_t (show (3 : Nat) ≤ 1000000 by decide) rfl))
    · obtain ⟨t1, t2, t3, _⟩ := ht
      exact eqw_ (ctake_no (by omega) t1 rfl (bif_f rfl (ctake_no (by omega) t1 rfl (bif_f rfl (ctake_no (by omega) t1 rfl (bif_f rfl (ctake_no (by omega) t1 rfl (bif_f rfl (ctake_no (by omega) t1 rfl (bif_f rfl (cneed (by omega) (by omega) t1 (.inl rfl) (cname (by omega) (by omega) t2 (by decide) (ctake_no (by omega) t3 rfl (bif_f rfl rfl))))))))))))))
  exact tr_v this rfl h
def armToks (x : AM) : List (Int × BB) := (0, x.lab) :: (3, [40]) :: (carToks x.kd x.nm ++ [(3, [41]), (1, dg x.nx)])
def sepToks : List AM → List (Int × BB)
  | [] => [(3, [125])]
  | x :: t => (3, [44]) :: (armToks x ++ sepToks t)
def armsToks : List AM → List (Int × BB)
  | [] => []
  | x :: t => (3, [123]) :: (armToks x ++ sepToks t)
theorem arm_ats {x : AM} {r : List (Int × BB)} (h : Ats L a (armToks x ++ r)) : At L a 0 x.lab ∧ At L (a + 1) 3 [40] ∧ Ats L (a + 2) (carToks x.kd x.nm ++ [(3, [41])]) ∧
    At L (a + 2 + (carToks x.kd x.nm).length) 3 [41] ∧ At L (a + 2 + (carToks x.kd x.nm).length + 1) 1 (dg x.nx) ∧ Ats L (a + 2 + (carToks x.kd x.nm).length + 2) r ∧ a + 2 + (carToks x.kd x.nm).length + 2 = a + (armToks x).length := by
  obtain ⟨h1, h2, h3⟩ := h
  have h3 : Ats L (a + 1 + 1) (carToks x.kd x.nm ++ [(3, [41]), (1, dg x.nx)] ++ r) := h3
  rw [List.append_assoc, Ats_app] at h3
  obtain ⟨h3, h4, h5, h6⟩ := h3
  refine ⟨h1, h2, Ats_app.2 ⟨h3, h4, trivial⟩, h4, h5, h6, ?_⟩
  simp [armToks]; omega
theorem carLen (k : Int) (x : BB) : (carToks k x).length ≤ 4 := by
  unfold carToks
  split; · simp
  split; · simp
  split; · simp
  split; · simp
  split; · simp
  split <;> simp
theorem arms_sep (q : Nat) (hm : 60 ≤ m) (x0 : RowT sh11) {P : Nat} (hP : P ≤ 10) : ∀ (t : List AM) (k a : Nat) (R : List AM) (row : RowT sh17), t.length < k → a + 20 * t.length < 80000 → R.length + t.length ≤ 100 → R ≠ [] → (∀ y ∈ t, okM P y) → Ats L a (sepToks t) →
    lq6__1_0 (T m) (q + 1) x0 k (q + 1) (PB b L a e rst) (R.map cM) row = some (.one (lC (.im false) 4 ((R ++ t).map cM)), [bx sh11 (PB b L (a + (sepToks t).length) e rst)])
  | [], k, a, R, row, hk, hal, hR, hne, hok, h => by
    obtain ⟨h1, _⟩ := h
    rw [lq6__1_0e]
    refine ctake_no (by omega) h1 rfl (bif_t rfl ?_)
    dsimp only
    rw [lq6__2_1e]
    refine cneed (by omega) (by omega) h1 (.inr rfl) (gd_t (g2 _) ?_)
    simp only [whole_eq, plainMs, List.append_nil]
    rfl
  | x :: t, k + 1, a, R, row, hk, hal, hR, hne, hok, h => by
    obtain ⟨h1, h2⟩ := h
    obtain ⟨g1, g2, g3, g4, g5, g6, g7⟩ := arm_ats h2
    obtain ⟨o1, o2, o3⟩ := hok x (List.mem_cons_self ..)
    have hl := carLen x.kd x.nm
    simp only [List.length_cons] at hal hk hR
    rw [lq6__1_0e]
    refine ctake (by omega) (by omega) h1 (.inr rfl) (bif_f rfl ?_)
    dsimp only
    rw [lq6__0_1e]
    refine cfailed (by omega) (bif_t rfl (cname (by omega) (by omega) g1 (lab_nm o1) (cneed (by omega) (by omega) g2 (.inr rfl) (ccarries (by omega) (by omega) o2 g3 (cneed (by omega) (by omega) g4 (.inr rfl) (cplace (by omega) (by omega) (by omega) g5 (.inl (by decide)) (gd_t (room (by simp; omega) (by omega)) ?_)))))))
    dsimp only
    have ih := arms_sep q hm x0 hP t k (a + 1 + (armToks x).length) (R ++ [x]) (x.lab, x.kd, x.nm, (x.nx : Int), ()) (by omega) (by rw [← g7]; omega) (by simp; omega) (by simp) (fun y hy => hok y (List.mem_cons_of_mem _ hy)) (by rw [← g7]; exact g6)
    rw [← g7] at ih
    rw [set_app, show List.map cM R ++ [[D.str x.lab, D.int .i64 x.kd, D.str x.nm, D.int .i64 (x.nx : Int)]] = List.map cM (R ++ [x]) by simp [cM]]
    refine ih.trans ?_
    rw [List.append_assoc]
    refine congrArg (fun n => some ((V.one (lC (.im false) 4 (List.map cM (R ++ ([x] ++ t))))), [bx sh11 (PB b L n e rst)])) ?_
    rw [g7]
    simp [sepToks]; omega
theorem carms (hm : 70 ≤ m) (ha : a < 70000) {P : Nat} (hP : P ≤ 10) {l : List AM} (hok : okMs P l) (ht : Ats L a (armsToks l)) {K : (Bool × RR) × RowT sh11 × Unit → OR} (h : K ((false, l.map cM), PB b L (a + (armsToks l).length) e rst, ()) = z) : c61 (T m) (PB b L a e rst) K = z := by
  obtain ⟨m, rfl⟩ : ∃ n, m = n + 2 := ⟨m - 2, by omega⟩
  obtain ⟨k1, k2, k3, k4⟩ := hok
  cases l with
  | nil => simp at k1
  | cons x t =>
    simp only [List.length_cons] at k1 k2
    obtain ⟨h1, h2⟩ := ht
    obtain ⟨g1, g2, g3, g4, g5, g6, g7⟩ := arm_ats h2
    obtain ⟨o1, o2, o3⟩ := k4 x (List.mem_cons_self ..)
    have hl := carLen x.kd x.nm
    refine tr_lp (eq6_ (cneed (by omega) (by omega) h1 (.inr rfl) ?_)) h
    dsimp only
    rw [lq6__0_0e]
    refine cfailed (by omega) (bif_t rfl (cname (by omega) (by omega) g1 (lab_nm o1) (cneed (by omega) (by omega) g2 (.inr rfl) (ccarries (by omega) (by omega) o2 g3 (cneed (by omega) (by omega) g4 (.inr rfl) (cplace (by omega) (by omega) (by omega) g5 (.inl (by decide)) (gd_t rfl ?_)))))))
    dsimp only
    have ih := arms_sep (m := m + 1) (b := b) (e := e) (rst := rst) m (by omega) (PB b L a e rst) hP t m (a + 1 + (armToks x).length) [x] (x.lab, x.kd, x.nm, (x.nx : Int), ()) (by omega) (by rw [← g7]; omega) (by simp; omega) (by simp) (fun y hy => k4 y (List.mem_cons_of_mem _ hy)) (by rw [← g7]; exact g6)
    rw [← g7] at ih
    refine ih.trans ?_
    refine congrArg (fun n => some ((V.one (lC (.im false) 4 (List.map cM (x :: t)))), [bx sh11 (PB b L n e rst)])) ?_
    rw [g7]
    simp [armsToks]; omega
end
end
section
open Go Go.Abs
inductive It where | wd (c : UInt8) (w : BB) | nu (k : Nat) | sg (c : UInt8) | ar | bl (c : UInt8)
def It.b : It → BB
  | .wd c w => c :: w
  | .nu k => dg k
  | .sg c => [c]
  | .ar => [45, 62]
  | .bl c => [c]
def fl : List It → BB
  | [] => []
  | x :: t => x.b ++ fl t
def tks : List It → List (Int × BB)
  | [] => []
  | .wd c w :: t => (0, c :: w) :: tks t
  | .nu k :: t => (1, dg k) :: tks t
  | .sg c :: t => (3, [c]) :: tks t
  | .ar :: t => (3, [45, 62]) :: tks t
  | .bl _ :: t => tks t
def rowsOf : List It → Nat → RR
  | [], _ => []
  | .wd c w :: t, a => tk 0 (c :: w) a :: rowsOf t (a + (c :: w).length)
  | .nu k :: t, a => tk 1 (dg k) a :: rowsOf t (a + 1)
  | .sg c :: t, a => tk 3 [c] a :: rowsOf t (a + 1)
  | .ar :: t, a => tk 3 [45, 62] a :: rowsOf t (a + 2)
  | .bl _ :: t, a => rowsOf t (a + 1)
def nw : List It → Bool
  | .wd .. :: _ => false
  | .nu _ :: _ => false
  | _ => true
def okI : List It → Prop
  | [] => True
  | .wd c w :: t => isLet c = true ∧ (∀ d ∈ w, isWd d = true) ∧ w.length < 40 ∧ nw t = true ∧ okI t
  | .nu k :: t => k < 10 ∧ nw t = true ∧ okI t
  | .sg c :: t => c ∈ sgs ∧ okI t
  | .ar :: t => okI t
  | .bl c :: t => (c = 32 ∨ c = 10) ∧ okI t
theorem nw_app {t b : List It} (h : nw t = true) (hb : nw b = true) : nw (t ++ b) = true := by
  cases t with
  | nil => exact hb
  | cons x t => cases x <;> first | rfl | cases h
theorem okI_app : ∀ {a b : List It}, okI a → okI b → nw b = true → okI (a ++ b)
  | [], b, _, h, _ => h
  | .wd c w :: t, b, ⟨h1, h2, h3, h4, h5⟩, hb, hn => ⟨h1, h2, h3, nw_app h4 hn, okI_app h5 hb hn⟩
  | .nu k :: t, b, ⟨h1, h2, h3⟩, hb, hn => ⟨h1, nw_app h2 hn, okI_app h3 hb hn⟩
  | .sg c :: t, b, ⟨h1, h2⟩, hb, hn => ⟨h1, okI_app h2 hb hn⟩
  | .ar :: t, b, h, hb, hn => okI_app (a := t) h hb hn
  | .bl c :: t, b, ⟨h1, h2⟩, hb, hn => ⟨h1, okI_app h2 hb hn⟩
theorem fl_app : ∀ (a b : List It), fl (a ++ b) = fl a ++ fl b
  | [], b => rfl
  | x :: t, b => by show x.b ++ fl (t ++ b) = _; rw [fl_app t b, ← List.append_assoc]; rfl
theorem tks_app : ∀ (a b : List It), tks (a ++ b) = tks a ++ tks b
  | [], b => rfl
  | .wd c w :: t, b => congrArg ((0, c :: w) :: ·) (tks_app t b)
  | .nu k :: t, b => congrArg ((1, dg k) :: ·) (tks_app t b)
  | .sg c :: t, b => congrArg ((3, [c]) :: ·) (tks_app t b)
  | .ar :: t, b => congrArg ((3, [45, 62]) :: ·) (tks_app t b)
  | .bl _ :: t, b => tks_app t b
theorem nw_wd {t : List It} (h : nw t = true) (hs : okI t) : fl t = [] ∨ ∃ c r, fl t = c :: r ∧ isWd c = false := by
  cases t with
  | nil => exact .inl rfl
  | cons x t =>
    refine .inr ?_
    cases x with
    | wd => cases h
    | nu => cases h
    | sg c =>
      refine ⟨c, fl t, rfl, ?_⟩
      have := hs.1
      simp only [sgs, List.mem_cons, List.not_mem_nil, or_false] at this
      rcases this with rfl | rfl | rfl | rfl | rfl | rfl | rfl | rfl <;> decide
    | ar => exact ⟨45, 62 :: fl t, rfl, by decide⟩
    | bl c =>
      refine ⟨c, fl t, rfl, ?_⟩
      rcases hs.1 with rfl | rfl <;> decide
theorem wd_dig {c : UInt8} (h : isWd c = false) : isDig c = false := by
  unfold isWd at h
  rw [Bool.or_eq_false_iff] at h
  exact h.2
theorem dg_dig {k : Nat} (h : k < 10) : isDig (UInt8.ofNat (48 + k)) = true := by
  match k, h with
  | 0, _ => decide
  | 1, _ => decide
  | 2, _ => decide
  | 3, _ => decide
  | 4, _ => decide
  | 5, _ => decide
  | 6, _ => decide
  | 7, _ => decide
  | 8, _ => decide
  | 9, _ => decide
theorem lex_items (m q : Nat) (tx : BB) (hl : tx.length < 100000) (hm : 60 ≤ m) : ∀ (items : List It) (A : BB) (L : RR) (r : Nat), okI items → tx = A ++ fl items → items.length < r → L.length + items.length ≤ 100000 →
    lq2__0_1 (T m) (q + 1) r tx L (A.length : Int) = some (.tup [.one (lC (.im false) 3 (plainRs (whole (L ++ rowsOf items A.length)))), .one (iC 0), .one (iC 0)], [])
  | [], A, L, r + 1, ho, ht, hr, hL => by
    have ht' : tx = A := by rw [ht]; simp [fl]
    subst ht'
    rw [lx_end]
    simp [rowsOf]
  | .bl c :: t, A, L, r + 1, ho, ht, hr, hL => by
    rw [lx_blank (R := fl t) ht hl ho.1]
    have ih := lex_items m q tx hl hm t (A ++ [c]) L r ho.2 (by rw [ht]; simp [fl, It.b]) (by simp at hr; omega) (by simp at hL; omega)
    rw [show (A ++ [c]).length = A.length + 1 by simp] at ih
    exact ih
  | .sg c :: t, A, L, r + 1, ho, ht, hr, hL => by
    rw [lx_sign (R := fl t) hm ht hl ho.1 (by simp at hL; omega)]
    have ih := lex_items m q tx hl hm t (A ++ [c]) (L ++ [tk 3 [c] A.length]) r ho.2 (by rw [ht]; simp [fl, It.b]) (by simp at hr; omega) (by simp at hL ⊢; omega)
    rw [show (A ++ [c]).length = A.length + 1 by simp] at ih
    rw [ih]
    simp [rowsOf]
  | .ar :: t, A, L, r + 1, ho, ht, hr, hL => by
    rw [lx_arrow (R := fl t) hm ht hl (by simp at hL; omega)]
    have ih := lex_items m q tx hl hm t (A ++ [45, 62]) (L ++ [tk 3 [45, 62] A.length]) r ho (by rw [ht]; simp [fl, It.b]) (by simp at hr; omega) (by simp at hL ⊢; omega)
    rw [show (A ++ [(45 : UInt8), 62]).length = A.length + 2 by simp] at ih
    rw [ih]
    simp [rowsOf]
  | .wd c w :: t, A, L, r + 1, ho, ht, hr, hL => by
    obtain ⟨h1, h2, h3, h4, h5⟩ := ho
    rw [lx_word (R := fl t) hm ht hl h1 h2 (nw_wd h4 h5) (by simp at hL; omega) h3]
    have ih := lex_items m q tx hl hm t (A ++ (c :: w)) (L ++ [tk 0 (c :: w) A.length]) r h5 (by rw [ht]; simp [fl, It.b]) (by simp at hr; omega) (by simp at hL ⊢; omega)
    rw [show (A ++ (c :: w)).length = A.length + (c :: w).length by simp] at ih
    rw [ih]
    simp [rowsOf]
  | .nu k :: t, A, L, r + 1, ho, ht, hr, hL => by
    obtain ⟨h1, h4, h5⟩ := ho
    have hR : fl t = [] ∨ ∃ c r, fl t = c :: r ∧ isDig c = false := by
      rcases nw_wd h4 h5 with h | ⟨c, r, h, h'⟩
      · exact .inl h
      · exact .inr ⟨c, r, h, wd_dig h'⟩
    rw [lx_num (R := fl t) (c := UInt8.ofNat (48 + k)) hm ht hl (dg_dig h1) hR (by simp at hL; omega) (num_ok m (by omega) h1)]
    have ih := lex_items m q tx hl hm t (A ++ dg k) (L ++ [tk 1 (dg k) A.length]) r h5 (by rw [ht]; simp [fl, It.b]) (by simp at hr; omega) (by simp at hL ⊢; omega)
    rw [show (A ++ dg k).length = A.length + 1 by simp [dg]] at ih
    refine ih.trans ?_
    simp [rowsOf]
theorem plain_rows : ∀ (t : List It) (a : Nat), plainRs (rowsOf t a) = rowsOf t a
  | [], _ => rfl
  | .wd c w :: t, a => congrArg (tk 0 (c :: w) a :: ·) (plain_rows t _)
  | .nu k :: t, a => congrArg (tk 1 (dg k) a :: ·) (plain_rows t _)
  | .sg c :: t, a => congrArg (tk 3 [c] a :: ·) (plain_rows t _)
  | .ar :: t, a => congrArg (tk 3 [45, 62] a :: ·) (plain_rows t _)
  | .bl _ :: t, a => plain_rows t _
theorem rows_ats : ∀ (t : List It) (a : Nat) (L : RR), Ats (L ++ rowsOf t a) L.length (tks t) ∧ (rowsOf t a).length = (tks t).length
  | [], _, _ => ⟨trivial, rfl⟩
  | .wd c w :: t, a, L => by
    have := rows_ats t (a + (c :: w).length) (L ++ [tk 0 (c :: w) a])
    rw [List.append_assoc] at this
    refine ⟨⟨⟨(a : Int), by simp [rowsOf, tk]⟩, by simpa [rowsOf] using this.1⟩, congrArg (· + 1) this.2⟩
  | .nu k :: t, a, L => by
    have := rows_ats t (a + 1) (L ++ [tk 1 (dg k) a])
    rw [List.append_assoc] at this
    refine ⟨⟨⟨(a : Int), by simp [rowsOf, tk]⟩, by simpa [rowsOf] using this.1⟩, congrArg (· + 1) this.2⟩
  | .sg c :: t, a, L => by
    have := rows_ats t (a + 1) (L ++ [tk 3 [c] a])
    rw [List.append_assoc] at this
    refine ⟨⟨⟨(a : Int), by simp [rowsOf, tk]⟩, by simpa [rowsOf] using this.1⟩, congrArg (· + 1) this.2⟩
  | .ar :: t, a, L => by
    have := rows_ats t (a + 2) (L ++ [tk 3 [45, 62] a])
    rw [List.append_assoc] at this
    refine ⟨⟨⟨(a : Int), by simp [rowsOf, tk]⟩, by simpa [rowsOf] using this.1⟩, congrArg (· + 1) this.2⟩
  | .bl c :: t, a, L => rows_ats t (a + 1) L
theorem items_le : ∀ t : List It, t.length ≤ (fl t).length
  | [] => Nat.le_refl _
  | x :: t => by
    have h1 := items_le t
    have h2 : 1 ≤ x.b.length := by cases x <;> simp [It.b, dg]
    show t.length + 1 ≤ (x.b ++ fl t).length
    rw [List.length_append]; omega
theorem ctokens {m : Nat} {z : OR} {c : UInt8} {w : BB} {t : List It} {tx : BB} (ht : tx = fl (.wd c w :: t)) (ho : okI (.wd c w :: t)) (hl : tx.length ≤ 16384) (hr : t.length + 70 ≤ m) {K : ((Bool × RR) × Int × Int × Unit) × Unit → OR}
    (h : K (((false, rowsOf (.wd c w :: t) 0), 0, 0, ()), ()) = z) : c25 (T m) tx K = z := by
  obtain ⟨m, rfl⟩ : ∃ n, m = n + 2 := ⟨m - 2, by omega⟩
  obtain ⟨h1, h2, h3, h4, h5⟩ := ho
  have e : T (m + 2) 25 [.one (sC tx)] [] = some (.tup [.one (lC (.im false) 3 (rowsOf (.wd c w :: t) 0)), .one (iC 0), .one (iC 0)], []) := by
    refine eq2_ (bif_f (decide_eq_false (by rw [natI_eq']; omega)) ?_)
    have hx := items_le (.wd c w :: t)
    rw [← ht, List.length_cons] at hx
    rw [lx_word0 (R := fl t) (by omega) (by rw [ht]; rfl) (by omega) h1 h2 (nw_wd h4 h5) h3]
    have h7 := lex_items (m + 1) m tx (by omega) (by omega) t (c :: w) [tk 0 (c :: w) 0] m h5 (by rw [ht]; rfl) (by omega) (by simp; omega)
    rw [h7, whole_eq]
    rw [show [tk 0 (c :: w) 0] ++ rowsOf t (c :: w).length = rowsOf (.wd c w :: t) 0 by simp [rowsOf]]
    rw [plain_rows]
  refine tr_t0 (v := ((false, rowsOf (.wd c w :: t) 0), 0, 0, ())) e ?_ h
  rfl
end
end Go.Proofs.YtamcbchinhdniaaGreatDoor
