/- What the functions that the law reaches answer, in plain data. -/
import Derived.Test.YtaifamiafiefkaaGreatDoorPlain0
import Derived.Test.YtaifamiafiefkaaGreatDoorPrim
set_option maxRecDepth 100000
set_option maxHeartbeats 1000000
set_option linter.unusedVariables false
set_option linter.unusedSimpArgs false
namespace Go.Proofs.YtaifamiafiefkaaGreatDoor
section
open Go Go.Abs PT
def roomT (l : List TK) : Bool := match l with | [] => true | _ => decide ((l.length + 1) * 32 ≤ 140737488355328)
theorem roomT_ok {l : List TK} (h : l.length < 100000) : roomT l = true := by
  cases l with
  | nil => rfl
  | cons x r => exact decide_eq_true (by simp only [List.length_cons] at h ⊢; omega)
noncomputable def L0 (Cl : Oracle) (n m0 : Nat) (txt : BB) (l : List TK) (i : Int) : OR := match l with
  | [] => lq2__0_0 Cl n m0 txt true [] i
  | x :: r => lq2__0_1 Cl n m0 txt ((x :: r).map cT) i
noncomputable def L1 (Cl : Oracle) (n m0 m1 : Nat) (txt : BB) (l : List TK) (i : Int) (w : RowT sh4) (j : Int) : OR := match l with
  | [] => lq7__0 Cl n m0 m1 txt true [] i w j
  | x :: r => lq7__1 Cl n m0 m1 txt ((x :: r).map cT) i w j
noncomputable def L2 (Cl : Oracle) (n m0 m2 : Nat) (txt : BB) (l : List TK) (i c : Int) (w : RowT sh4) (b : Bool) : OR := match l with
  | [] => lq3__0 Cl n m0 m2 txt true [] i c w b
  | x :: r => lq3__1 Cl n m0 m2 txt ((x :: r).map cT) i c w b
theorem L2_eq {Cl n m0 m2 txt} {l : List TK} {a2 a3 : Int} {a4 : RowT sh4} {a5 : Bool} : L2 Cl n m0 (m2 + 1) txt l a2 a3 a4 a5 = (bif (a3 == 32) then (L0 Cl n m0 txt l (w64 (a2 + 1))) else (bif (a3 == 9) then (L0 Cl n m0 txt l (w64 (a2 + 1))) else (bif (a3 == 10) then (L0 Cl n m0 txt l (w64 (a2 + 1))) else (bif (a3 == 35) then (c15 Cl txt a2 fun v34 => (L0 Cl n m0 txt l v34.1)) else (tRes rs2 (Cl 17 [(.one (.d (.int .u8 a3)))] []) fun v35 => (bif v35.1 then (c15x1 Cl txt a2 fun v36 => (L1 Cl n m0 n txt l a2 (0, a4.2) v36.1)) else (tRes rs2 (Cl 13 [(.one (.d (.int .u8 a3)))] []) fun v37 => (bif v37.1 then (c15x2 Cl txt (w64 (a2 + 1)) fun v38 => (qOpt (asI a2) fun o39 => (qOpt (asI v38.1) fun o40 => (gd (decide (o39 ≤ o40) && decide (o40 ≤ txt.length)) (c19 Cl (List.take (o40 - o39) (List.drop o39 txt)) fun v41 => (bif (!v41.1) then (some ((.tup [(.one (lC (.im true) 3 [])), (.one (iC a2)), (.one (iC 202))]), [])) else (L1 Cl n m0 n txt l a2 (1, a4.2) v38.1))))))) else (bif a5 then (c15x2 Cl txt (w64 (a2 + 1)) fun v42 => (qOpt (asI a2) fun o43 => (qOpt (asI v42.1) fun o44 => (gd (decide (o43 ≤ o44) && decide (o44 ≤ txt.length)) (c19 Cl (List.take (o44 - o43) (List.drop o43 txt)) fun v45 => (bif (!v45.1) then (some ((.tup [(.one (lC (.im true) 3 [])), (.one (iC a2)), (.one (iC 202))]), [])) else (L1 Cl n m0 n txt l a2 (1, a4.2) v42.1))))))) else (bif (a3 == 34) then (c20 Cl txt a2 fun v46 => (bif (!v46.1.2.2.1) then (some ((.tup [(.one (lC (.im true) 3 [])), (.one (iC a2)), (.one (iC 203))]), [])) else (gd (roomT l) (L0 Cl n m0 txt (l ++ [⟨2, v46.1.1, a4.2.2.1⟩]) v46.1.2.1)))) else (c21 Cl txt a2 fun v47 => (bif (v47.1 == []) then (some ((.tup [(.one (lC (.im true) 3 [])), (.one (iC a2)), (.one (iC 201))]), [])) else (L1 Cl n m0 n txt l a2 (3, a4.2) (w64 (a2 + natI (List.length v47.1)))))))))))))))) := by
  cases l with
  | nil => exact lq3__0e
  | cons x r =>
    refine lq3__1e.trans ?_
    have hr : (((x :: r).map cT).length == ((x :: r).map cT).length && true && decide ((((x :: r).map cT).length + 1) * 32 ≤ 140737488355328)) = roomT (x :: r) := by
      rw [beq_self_eq_true, List.length_map]; rfl
    have hap : ∀ (s : BB) (z : Int), (x :: r).map cT ++ [[D.int .i64 0, D.str [], D.int .i64 0]].set 0 [D.int .i64 2, D.str s, D.int .i64 z] = (x :: (r ++ [(⟨2, s, z⟩ : TK)])).map cT := fun s z => by simp [cT]
    simp only [hr, hap]
    rfl
theorem L1_eq {Cl n m0 m1 txt} {l : List TK} {a2 a4 : Int} {a3 : RowT sh4} : L1 Cl n m0 (m1 + 1) txt l a2 a3 a4 = (qOpt (asI a2) fun o48 => (qOpt (asI a4) fun o49 => (gd (decide (o48 ≤ o49) && decide (o49 ≤ txt.length)) (gd (roomT l) (L0 Cl n m0 txt (l ++ [⟨a3.1, List.take (o49 - o48) (List.drop o48 txt), a3.2.2.1⟩]) a4))))) := by
  cases l with
  | nil => exact lq7__0e
  | cons x r =>
    refine lq7__1e.trans ?_
    have hr : (((x :: r).map cT).length == ((x :: r).map cT).length && true && decide ((((x :: r).map cT).length + 1) * 32 ≤ 140737488355328)) = roomT (x :: r) := by
      rw [beq_self_eq_true, List.length_map]; rfl
    rw [hr]
    refine congrArg (qOpt (asI a2)) (funext fun o => congrArg (qOpt (asI a4)) (funext fun o' => ?_))
    refine congrArg (gd _) (congrArg (gd _) ?_)
    show lq2__0_1 _ _ _ _ _ _ = lq2__0_1 _ _ _ _ ((x :: (r ++ [_])).map cT) _
    simp [cT]
noncomputable abbrev LX (n q k : Nat) (txt : BB) (l : List TK) (i : Nat) : OR := L0 (T n) (q + 1) k txt l (i : Int)
theorem res_q (s : BB) (z : Int) (b : Bool) {R : Type} (K : (BB × Int × Bool × Unit) × Unit → Option R) : tRes rs7 (some (.tup [.one (sC s), .one (iC z), .one (bC b)], [])) K = K ((s, z, b, ()), ()) := rfl
theorem isLet_ne {c : UInt8} (h : isLet c = true) {k : Nat} (hk : k < 97 ∨ 122 < k) : c.toNat ≠ k := by
  unfold isLet at h
  simp only [Bool.and_eq_true, decide_eq_true_eq] at h
  omega
theorem nbe {c : UInt8} {k : Nat} {z : Int} (hz : z = (k : Int)) (h : c.toNat ≠ k) : (natI c.toNat == z) = false := by subst hz; rw [natI_beq]; exact decide_eq_false h
section
variable {n q k : Nat} {txt : BB} {l : List TK} {i : Nat}
theorem h1_ok (kk : Int) {raw r : BB} (h : txt.drop i = raw ++ r) (hr : raw ≠ []) (hl : l.length < 100000) (j : Int) (hj : j = ((i + raw.length : Nat) : Int)) :
    L1 (T n) (q + 1) k (q + 1) txt l (i : Int) (kk, [], (i : Int), ()) j = LX n q k txt (l ++ [(⟨kk, raw, i⟩ : TK)]) (i + raw.length) := by
  obtain ⟨c1, c2⟩ := cut_ok h hr
  subst hj
  rw [L1_eq]
  rw [qO_asI _ rfl, qO_asI _ rfl]
  refine (gd_t (by rw [decide_eq_true (by omega), decide_eq_true (by omega)]; rfl)).trans ?_
  refine (gd_t (roomT_ok hl)).trans ?_
  rw [c2]
theorem open_ok {c : UInt8} {r : BB} (h : txt.drop i = c :: r) (ht : txt.length < 100000) (hn : 10 ≤ n) (hc : c ≠ 45 ∨ ∃ d r', r = d :: r' ∧ isDig d = false) :
    LX n q (k + 1) txt l i = L2 (T n) (q + 1) k (q + 1) txt l (i : Int) (natI c.toNat) (0, [], (i : Int), ()) false := by
  obtain ⟨g1, g2, g3⟩ := drop_at h
  unfold LX
  cases l with
  | nil =>
    show _ = lq3__0 (T n) (q + 1) k (q + 1) txt true [] (i : Int) (natI c.toNat) (0, [], (i : Int), ()) false
    refine lq2__0_0e.trans ?_
    rw [bif_t (decide_eq_true (show (i : Int) < natI txt.length by rw [natI_eq]; omega)), qO_asI _ rfl]
    refine (qO _ g1).trans ?_
    by_cases h45 : c = 45
    · subst h45
      obtain ⟨d, r', hr, hd⟩ : ∃ d r', r = d :: r' ∧ isDig d = false := by
        rcases hc with hc | hc
        · exact absurd rfl hc
        · exact hc
      subst hr
      obtain ⟨g4, g5, g6⟩ := drop_at g3
      rw [bif_t (by decide), w64_succ i (by omega), bif_t (decide_eq_true (show ((i + 1 : Nat) : Int) < natI txt.length by rw [natI_eq]; omega)), qO_asI _ rfl]
      refine (qO _ g4).trans ?_
      rw [ldigit_ok n (by omega), res_b, hd]
      dsimp only
      rw [cond_false]
    · rw [bif_f (nbe (k := 45) (z := 45) rfl (fun h => h45 (UInt8.toNat_inj.1 h)))]
  | cons x l =>
    show _ = lq3__1 (T n) (q + 1) k (q + 1) txt ((x :: l).map cT) (i : Int) (natI c.toNat) (0, [], (i : Int), ()) false
    refine lq2__0_1e.trans ?_
    rw [bif_t (decide_eq_true (show (i : Int) < natI txt.length by rw [natI_eq]; omega)), qO_asI _ rfl]
    refine (qO _ g1).trans ?_
    by_cases h45 : c = 45
    · subst h45
      obtain ⟨d, r', hr, hd⟩ : ∃ d r', r = d :: r' ∧ isDig d = false := by
        rcases hc with hc | hc
        · exact absurd rfl hc
        · exact hc
      subst hr
      obtain ⟨g4, g5, g6⟩ := drop_at g3
      rw [bif_t (by decide), w64_succ i (by omega), bif_t (decide_eq_true (show ((i + 1 : Nat) : Int) < natI txt.length by rw [natI_eq]; omega)), qO_asI _ rfl]
      refine (qO _ g4).trans ?_
      rw [ldigit_ok n (by omega), res_b, hd]
      dsimp only
      rw [cond_false]
    · rw [bif_f (nbe (k := 45) (z := 45) rfl (fun h => h45 (UInt8.toNat_inj.1 h)))]
def Opn (l : List TK) : Prop := l = [] ∨ ∃ l0 x, l = l0 ++ [x] ∧ closedB x.k x.s = false
theorem open_neg {d : UInt8} {r : BB} (h : txt.drop i = 45 :: d :: r) (ht : txt.length < 100000) (hn : 10 ≤ n) (hd : isDig d = true) (ho : Opn l) (hll : l.length < 100000) :
    LX n q (k + 1) txt l i = L2 (T n) (q + 1) k (q + 1) txt l (i : Int) (natI (45 : UInt8).toNat) (0, [], (i : Int), ()) true := by
  obtain ⟨g1, g2, g3⟩ := drop_at h
  obtain ⟨g4, g5, g6⟩ := drop_at g3
  unfold LX
  rcases ho with rfl | ⟨l0, x, hl, hx⟩
  · show _ = lq3__0 (T n) (q + 1) k (q + 1) txt true [] (i : Int) (natI (45 : UInt8).toNat) (0, [], (i : Int), ()) true
    refine lq2__0_0e.trans ?_
    rw [bif_t (decide_eq_true (show (i : Int) < natI txt.length by rw [natI_eq]; omega)), qO_asI _ rfl]
    refine (qO _ g1).trans ?_
    rw [bif_t (by decide), w64_succ i (by omega), bif_t (decide_eq_true (show ((i + 1 : Nat) : Int) < natI txt.length by rw [natI_eq]; omega)), qO_asI _ rfl]
    refine (qO _ g4).trans ?_
    rw [ldigit_ok n (by omega), res_b, hd]
    dsimp only
    rw [cond_true, bif_t (show (natI ([] : RR).length == 0) = true from rfl)]
  · obtain ⟨y, l', rfl⟩ : ∃ y l', l = y :: l' := by
      cases l with
      | nil => simp at hl
      | cons y l' => exact ⟨y, l', rfl⟩
    have hlen : (y :: l').length = l0.length + 1 := by rw [hl]; simp
    show _ = lq3__1 (T n) (q + 1) k (q + 1) txt ((y :: l').map cT) (i : Int) (natI (45 : UInt8).toNat) (0, [], (i : Int), ()) true
    refine lq2__0_1e.trans ?_
    rw [bif_t (decide_eq_true (show (i : Int) < natI txt.length by rw [natI_eq]; omega)), qO_asI _ rfl]
    refine (qO _ g1).trans ?_
    rw [bif_t (by decide), w64_succ i (by omega), bif_t (decide_eq_true (show ((i + 1 : Nat) : Int) < natI txt.length by rw [natI_eq]; omega)), qO_asI _ rfl]
    refine (qO _ g4).trans ?_
    rw [ldigit_ok n (by omega), res_b, hd]
    dsimp only
    rw [cond_true, bif_f (show (natI ((y :: l').map cT).length == 0) = false by rw [List.length_map, hlen, natI_eq]; simp; omega)]
    refine iV_of (i := l0.length) (v := (x.k, x.s, x.a, ())) (by rw [List.length_map, natI_eq, hlen]; exact w64_len l0.length (by omega)) (r := cT x) (by rw [List.getElem?_map, hl, List.getElem?_append_right (by omega)]; simp) (Nat.le_refl 3) rfl ?_
    dsimp only
    refine tr_b (closed' n (by omega) _ _ _) ?_
    dsimp only
    rw [hx, Bool.not_false]
end
def Lx (txt : BB) (l : List TK) (i : Nat) (l' : List TK) (i' : Nat) : Prop := ∃ c, ∀ n q k, txt.length + 200 ≤ n → LX n q (k + c) txt l i = LX n q k txt l' i'
section
variable {txt : BB} {l l' l2 : List TK} {i i' i2 : Nat}
theorem Lx.refl : Lx txt l i l i := ⟨0, fun _ _ _ _ => rfl⟩
theorem Lx.trans (h : Lx txt l i l' i') (h' : Lx txt l' i' l2 i2) : Lx txt l i l2 i2 := by
  obtain ⟨c, h⟩ := h
  obtain ⟨c', h'⟩ := h'
  refine ⟨c' + c, fun n q k hn => ?_⟩
  rw [← Nat.add_assoc, h n q (k + c') hn, h' n q k hn]
theorem lx_sp {r : BB} (h : txt.drop i = 32 :: r) (ht : txt.length < 100000) : Lx txt l i l (i + 1) := by
  refine ⟨1, fun n q k hn => ?_⟩
  obtain ⟨g1, g2, g3⟩ := drop_at h
  rw [open_ok h ht (by omega) (.inl (by decide)), L2_eq]
  rw [bif_t (by decide), w64_succ i (by omega)]
theorem lx_word {raw r : BB} {c : UInt8} {raw' : BB} (h : txt.drop i = raw ++ r) (ht : txt.length < 100000) (hraw : raw = c :: raw') (hc : isLet c = true) (hall : ∀ x ∈ raw, isLD x = true) (hr : r.takeWhile isLD = []) (hl : l.length < 100000) :
    Lx txt l i (l ++ [⟨0, raw, i⟩]) (i + raw.length) := by
  refine ⟨1, fun n q k hn => ?_⟩
  have h' : txt.drop i = c :: (raw' ++ r) := by rw [h, hraw]; rfl
  obtain ⟨g1, g2, g3⟩ := drop_at h'
  rw [open_ok h' ht (by omega) (.inl (by rintro rfl; revert hc; decide)), L2_eq]
  rw [bif_f (nbe (k := 32) (z := 32) rfl (isLet_ne hc (by omega))), bif_f (nbe (k := 9) (z := 9) rfl (isLet_ne hc (by omega))), bif_f (nbe (k := 10) (z := 10) rfl (isLet_ne hc (by omega))), bif_f (nbe (k := 35) (z := 35) rfl (isLet_ne hc (by omega))), lletter_ok n (by omega), res_b, hc]
  dsimp only
  rw [cond_true, c15x1, runLD n txt ht (by omega) i (by omega), res_i]
  dsimp only
  rw [h, tw_all hall hr]
  exact h1_ok 0 h (by rw [hraw]; simp) hl _ rfl
theorem isLet_dig {c : UInt8} (h : isDig c = true) : isLet c = false := by
  unfold isDig at h; unfold isLet
  simp only [Bool.and_eq_true, decide_eq_true_eq] at h
  rw [decide_eq_false (show ¬ 97 ≤ c.toNat by omega)]; rfl
theorem lx_num {raw d r : BB} (h : txt.drop i = raw ++ r) (ht : txt.length < 100000) (hno : numOk raw d) (hr : r.takeWhile isDig = []) (hl : l.length < 100000) (ho : Opn l) :
    Lx txt l i (l ++ [⟨1, raw, i⟩]) (i + raw.length) := by
  refine ⟨1, fun n q k hn => ?_⟩
  have hno' := hno
  obtain ⟨hraw, hd, hdig, _⟩ := hno'
  have hne : raw ≠ [] := by rcases hraw with rfl | rfl; exact hd; simp
  obtain ⟨c1, c2⟩ := cut_ok h hne
  rcases hraw with rfl | hraw
  · cases hc : raw with
    | nil => exact absurd hc hd
    | cons c d =>
      have hdc := hdig c (by rw [hc]; simp)
      have h' : txt.drop i = c :: (d ++ r) := by rw [h, hc]; rfl
      obtain ⟨g1, g2, g3⟩ := drop_at h'
      rw [open_ok h' ht (by omega) (.inl (by rintro rfl; revert hdc; decide)), L2_eq]
      rw [bif_f (nbe (k := 32) (z := 32) rfl (dig_ne hdc (by omega))), bif_f (nbe (k := 9) (z := 9) rfl (dig_ne hdc (by omega))), bif_f (nbe (k := 10) (z := 10) rfl (dig_ne hdc (by omega))), bif_f (nbe (k := 35) (z := 35) rfl (dig_ne hdc (by omega))), lletter_ok n (by omega), res_b, isLet_dig hdc]
      dsimp only
      rw [cond_false, ldigit_ok n (by omega), res_b, hdc]
      dsimp only
      rw [cond_true, w64_succ i (by omega), c15x2, runDig n txt ht (by omega) (i + 1) (by omega), res_i]
      dsimp only
      rw [g3, tw_all (fun x hx => hdig x (by rw [hc]; simp [hx])) hr]
      have e : i + 1 + d.length = i + raw.length := by rw [hc]; simp; omega
      rw [e, qO_asI _ rfl, qO_asI _ rfl]
      refine (gd_t (by rw [decide_eq_true (by omega), decide_eq_true (by omega)]; rfl)).trans ?_
      rw [c2, c19, number' n (by omega) hno, res_b]
      dsimp only
      rw [bif_f (show (!true) = false from rfl), ← hc]
      exact h1_ok 1 h hne hl _ rfl
  · cases hc : d with
    | nil => exact absurd hc hd
    | cons c d' =>
      have hdc := hdig c (by rw [hc]; simp)
      have h' : txt.drop i = 45 :: c :: (d' ++ r) := by rw [h, hraw, hc]; rfl
      have h2 : txt.drop i = 45 :: (d ++ r) := by rw [h, hraw]; rfl
      obtain ⟨g1, g2, g3⟩ := drop_at h2
      rw [open_neg h' ht (by omega) hdc ho hl, L2_eq]
      rw [bif_f (by decide), bif_f (by decide), bif_f (by decide), bif_f (by decide), lletter_ok n (by omega), res_b]
      dsimp only
      rw [bif_f (by decide), ldigit_ok n (by omega), res_b]
      dsimp only
      rw [bif_f (by decide), cond_true, w64_succ i (by omega), c15x2, runDig n txt ht (by omega) (i + 1) (by omega), res_i]
      dsimp only
      rw [g3, tw_all hdig hr]
      have e : i + 1 + d.length = i + raw.length := by rw [hraw]; simp; omega
      rw [e, qO_asI _ rfl, qO_asI _ rfl]
      refine (gd_t (by rw [decide_eq_true (by omega), decide_eq_true (by omega)]; rfl)).trans ?_
      rw [c2, c19, number' n (by omega) hno, res_b]
      dsimp only
      rw [bif_f (show (!true) = false from rfl)]
      exact h1_ok 1 h hne hl _ rfl
theorem lx_quote {s r : BB} (h : txt.drop i = quotedB s ++ r) (ht : txt.length < 100000) (hs : s.length ≤ 100) (hl : l.length < 100000) : Lx txt l i (l ++ [⟨2, s, i⟩]) (i + (quotedB s).length) := by
  refine ⟨1, fun n q k hn => ?_⟩
  have h' : txt.drop i = 34 :: (s.flatMap qc ++ [34] ++ r) := by rw [h]; rfl
  rw [open_ok h' ht (by omega) (.inl (by decide)), L2_eq]
  rw [bif_f (by decide), bif_f (by decide), bif_f (by decide), bif_f (by decide), lletter_ok n (by omega), res_b]
  dsimp only
  rw [bif_f (by decide), ldigit_ok n (by omega), res_b]
  dsimp only
  rw [bif_f (by decide), cond_false, bif_t (by decide), c20, quote_ok n txt ht r s (by omega) (by omega) i h, res_q]
  dsimp only
  rw [bif_f (show (!true) = false from rfl)]
  exact gd_t (roomT_ok hl)
theorem not_let {c : UInt8} (h : c ∈ (45 :: 61 :: sg1)) : isLet c = false ∧ isDig c = false ∧ (natI c.toNat == (32 : Int)) = false ∧ (natI c.toNat == (9 : Int)) = false ∧ (natI c.toNat == (10 : Int)) = false ∧ (natI c.toNat == (35 : Int)) = false ∧ (natI c.toNat == (34 : Int)) = false := by
  simp only [sg1, List.mem_cons, List.not_mem_nil, or_false] at h
  rcases h with rfl | rfl | rfl | rfl | rfl | rfl | rfl | rfl | rfl | rfl | rfl | rfl <;> decide
theorem lx_sign {raw r : BB} {c : UInt8} {raw' : BB} (h : txt.drop i = raw ++ r) (hraw : raw = c :: raw') (ht : txt.length < 100000) (hl : l.length < 100000)
    (hc : (raw = [c] ∧ (c ∈ sg1 ∨ (c = 45 ∧ ∃ r', r = 32 :: r'))) ∨ raw = [61, 61]) : Lx txt l i (l ++ [⟨3, raw, i⟩]) (i + raw.length) := by
  refine ⟨1, fun n q k hn => ?_⟩
  have h' : txt.drop i = c :: (raw' ++ r) := by rw [h, hraw]; rfl
  have hmem : c ∈ (45 :: 61 :: sg1) := by
    rcases hc with ⟨_, hc | ⟨rfl, _⟩⟩ | hc
    · simp [hc]
    · simp
    · rw [hraw] at hc; injection hc with hc _; subst hc; simp
  obtain ⟨n1, n2, n3, n4, n5, n6, n7⟩ := not_let hmem
  rw [open_ok h' ht (by omega) (by
    rcases hc with ⟨h1, hc | ⟨rfl, r', h2⟩⟩ | hc
    · exact .inl (by rintro rfl; revert hc; decide)
    · rw [hraw] at h1; injection h1 with _ h1; subst h1; subst h2; exact .inr ⟨32, r', rfl, by decide⟩
    · rw [hraw] at hc; injection hc with hc _; subst hc; exact .inl (by decide)), L2_eq]
  rw [bif_f n3, bif_f n4, bif_f n5, bif_f n6, lletter_ok n (by omega), res_b, n1]
  dsimp only
  rw [cond_false, ldigit_ok n (by omega), res_b, n2]
  dsimp only
  rw [cond_false, cond_false, bif_f n7]
  have hs : T n 21 [.one (sC txt), .one (iC (i : Int))] [] = some (.one (sC raw), []) := by
    rcases hc with ⟨h1, hc⟩ | hc
    · rw [hraw] at h1
      injection h1 with _ h1
      subst h1
      rw [hraw]
      exact sign1 n (by omega) ht h' hc
    · rw [hc] at h ⊢
      exact sign2 n (by omega) ht h
  rw [c21, hs, res_s]
  dsimp only
  rw [bif_f (show (raw == []) = false by rw [hraw]; rfl)]
  have hb : i + raw.length < 1000000 := by have := (cut_ok h (by rw [hraw]; simp)).1; omega
  exact h1_ok 3 h (by rw [hraw]; simp) hl (w64 ((i : Int) + natI raw.length)) (by
    show IntKind.wrap .i64 _ = _
    rw [natI_eq, wrap_i64 (by omega) (by omega)]; simp)
end
end
section
open Go Go.Abs PT
def kt (t : TK) : Int × BB := (t.k, t.s)
def LxK (txt : BB) (l : List TK) (i : Nat) (tk : List (Int × BB)) (i' : Nat) : Prop := ∃ ts : List TK, ts.map kt = tk ∧ Lx txt l i (l ++ ts) i' ∧ (l ++ ts).length ≤ i'
section
variable {txt : BB} {l : List TK} {i i1 i2 : Nat} {tk tk' : List (Int × BB)}
theorem LxK.nil (hl : l.length ≤ i) : LxK txt l i [] i := ⟨[], rfl, by rw [List.append_nil]; exact Lx.refl, by rw [List.append_nil]; exact hl⟩
theorem LxK.tok {x : TK} (h : Lx txt l i (l ++ [x]) i1) (r : LxK txt (l ++ [x]) i1 tk i2) : LxK txt l i (kt x :: tk) i2 := by
  obtain ⟨ts, h1, h2, h3⟩ := r
  refine ⟨x :: ts, by rw [List.map_cons, h1], ?_, ?_⟩
  · rw [show l ++ x :: ts = l ++ [x] ++ ts by simp]; exact h.trans h2
  · rw [show l ++ x :: ts = l ++ [x] ++ ts by simp]; exact h3
theorem LxK.sp {r : BB} (h : txt.drop i = 32 :: r) (ht : txt.length < 100000) (k : LxK txt l (i + 1) tk i2) : LxK txt l i tk i2 := by
  obtain ⟨ts, h1, h2, h3⟩ := k
  exact ⟨ts, h1, (lx_sp h ht).trans h2, h3⟩
theorem LxK.app (h : LxK txt l i tk i1) (r : ∀ ts : List TK, (l ++ ts).length ≤ i1 → LxK txt (l ++ ts) i1 tk' i2) : LxK txt l i (tk ++ tk') i2 := by
  obtain ⟨ts, h1, h2, h3⟩ := h
  obtain ⟨ts', g1, g2, g3⟩ := r ts h3
  refine ⟨ts ++ ts', by rw [List.map_append, h1, g1], ?_, ?_⟩
  · rw [← List.append_assoc]; exact h2.trans g2
  · rw [← List.append_assoc]; exact g3
theorem LxK.cast {tk' : List (Int × BB)} {i2' : Nat} (h : LxK txt l i tk i2) (ht : tk = tk') (hi : i2 = i2') : LxK txt l i tk' i2' := by subst ht hi; exact h
theorem drop_lt {raw r : BB} (h : txt.drop i = raw ++ r) (hr : raw ≠ []) : i < txt.length := by
  have := (cut_ok h hr).1
  have h2 : 0 < raw.length := by cases raw with | nil => exact absurd rfl hr | cons => simp
  omega
def wordOk (w : BB) : Prop := ∃ c w', w = c :: w' ∧ isLet c = true ∧ ∀ x ∈ w, isLD x = true
theorem K_word {raw r : BB} (hw : wordOk raw) (h : txt.drop i = raw ++ r) (ht : txt.length < 100000) (hr : r.takeWhile isLD = []) (hl : l.length ≤ i) (k : LxK txt (l ++ [⟨0, raw, i⟩]) (i + raw.length) tk i2) : LxK txt l i ((0, raw) :: tk) i2 := by
  obtain ⟨c, w', h1, h2, h3⟩ := hw
  have := drop_lt h (by rw [h1]; simp)
  exact LxK.tok (lx_word h ht h1 h2 h3 hr (by omega)) k
theorem K_sign {c : UInt8} {r : BB} (h : txt.drop i = c :: r) (hc : c ∈ sg1 ∨ (c = 45 ∧ ∃ r', r = 32 :: r')) (ht : txt.length < 100000) (hl : l.length ≤ i) (k : LxK txt (l ++ [⟨3, [c], i⟩]) (i + 1) tk i2) : LxK txt l i ((3, [c]) :: tk) i2 := by
  have := drop_lt (raw := [c]) h (by simp)
  exact LxK.tok (lx_sign (raw := [c]) h rfl ht (by omega) (.inl ⟨rfl, hc⟩)) k
theorem K_eqs {r : BB} (h : txt.drop i = 61 :: 61 :: r) (ht : txt.length < 100000) (hl : l.length ≤ i) (k : LxK txt (l ++ [⟨3, [61, 61], i⟩]) (i + 2) tk i2) : LxK txt l i ((3, [61, 61]) :: tk) i2 := by
  have := drop_lt (raw := [61, 61]) h (by simp)
  exact LxK.tok (lx_sign (raw := [61, 61]) h rfl ht (by omega) (.inr rfl)) k
end
theorem may_word {w : BB} (h : mayB w = true) : wordOk w := by
  cases w with
  | nil => cases h
  | cons c r =>
    have h : (decide (r.length + 1 ≤ 12) && isLet c && !(kwB (c :: r)) && r.all isLD) = true := h
    simp only [Bool.and_eq_true] at h
    refine ⟨c, r, rfl, h.1.1.2, fun x hx => ?_⟩
    rw [List.mem_cons] at hx
    rcases hx with rfl | hx
    · unfold isLD; rw [h.1.1.2]; rfl
    · exact List.all_eq_true.1 h.2 x hx
theorem digs_head : ∀ (f u : Nat), u < 10 ^ (f + 1) → 0 < u → ∀ c r, digs f u = c :: r → c.toNat ≠ 48
  | 0, u, h, hu, c, r, hc => by
    have h1 : u < 10 := by simpa using h
    simp only [digs] at hc
    injection hc with hc _
    rw [← hc, u8_dig u h1]; omega
  | f + 1, u, h, hu, c, r, hc => by
    simp only [digs] at hc
    by_cases h1 : u < 10
    · rw [if_pos h1] at hc
      injection hc with hc _
      rw [← hc, u8_dig u h1]; omega
    · rw [if_neg h1] at hc
      have h2 : u / 10 < 10 ^ (f + 1) := by rw [Nat.pow_succ] at h; omega
      cases hd : digs f (u / 10) with
      | nil => exact absurd hd (digs_ok f (u / 10) h2).2.2.1
      | cons c' r' =>
        rw [hd] at hc
        injection hc with hc _
        rw [← hc]
        exact digs_head f (u / 10) h2 (by omega) c' r' hd
theorem itoa_num {n : Int} (h0 : -9223372036854775808 ≤ n) (h1 : n ≤ 9223372036854775807) : ∃ d, numOk (itoaK n) d := by
  have e2 : (10 : Nat) ^ (19 + 1) = 100000000000000000000 := by decide
  have hp := parse_itoa h0 h1
  have hl := itoa_len h0 h1
  by_cases h : n < 0
  · have hi : itoaK n = 45 :: digs 19 n.natAbs := by unfold itoaK; rw [if_pos h]
    have hd := digs_ok 19 n.natAbs (by rw [e2]; omega)
    have hh := digs_head 19 n.natAbs (by rw [e2]; omega) (by omega)
    refine ⟨digs 19 n.natAbs, .inr hi, hd.2.2.1, hd.1, .inr hh, ?_, by omega, n, hp⟩
    intro hc
    rw [hi] at hc
    injection hc with _ hc
    exact hh 48 [] hc (by decide)
  · have hi : itoaK n = digs 19 n.toNat := by unfold itoaK; rw [if_neg h]
    have hd := digs_ok 19 n.toNat (by rw [e2]; omega)
    refine ⟨digs 19 n.toNat, .inl hi, hd.2.2.1, hd.1, ?_, ?_, by omega, n, hp⟩
    · by_cases hz : n.toNat = 0
      · left; rw [hz]; rfl
      · right; exact digs_head 19 n.toNat (by rw [e2]; omega) (by omega)
    · intro hc
      rw [hi] at hc
      have := hd.1 45 (by rw [hc]; simp)
      revert this; decide
theorem tw_dig {r : BB} (h : r.takeWhile isLD = []) : r.takeWhile isDig = [] := by
  cases r with
  | nil => rfl
  | cons c r =>
    rw [List.takeWhile_cons] at h ⊢
    cases hc : isLD c with
    | true => rw [hc] at h; cases h
    | false =>
      have : isDig c = false := by unfold isLD at hc; cases hd : isDig c with | false => rfl | true => rw [hd] at hc; simp at hc
      rw [this]; rfl
def word? (w : BB) : Bool := match w with | [] => false | c :: _ => isLet c && w.all isLD
theorem word_of {w : BB} (h : word? w = true) : wordOk w := by
  cases w with
  | nil => cases h
  | cons c r =>
    have h : (isLet c && (c :: r).all isLD) = true := h
    rw [Bool.and_eq_true] at h
    exact ⟨c, r, rfl, h.1, fun x hx => List.all_eq_true.1 h.2 x hx⟩
theorem cll_word (k : Int) : wordOk (cll k) := by
  unfold cll
  repeat' split
  all_goals exact word_of (by decide)
theorem lex_tree : ∀ (t : TT), okT t → ∀ (txt : BB) (l : List TK) (i : Nat) (r : BB), txt.length < 100000 → l.length ≤ i → Opn l → txt.drop i = txtOf t ++ r → r.takeWhile isLD = [] →
    LxK txt l i (tkOf t) (i + (txtOf t).length)
  | .lf k nm n tx, h, txt, l, i, r, ht, hl, ho, hd, hr => by
    have hlt := drop_lt hd (txt_ne h)
    rcases h with ⟨rfl, h, rfl, rfl⟩ | ⟨rfl, rfl, rfl, h, h'⟩ | ⟨rfl, rfl, rfl, h⟩ | ⟨rfl, rfl, rfl, h⟩ | ⟨rfl, rfl, rfl, rfl⟩ | ⟨rfl, rfl, rfl, rfl⟩
    · have hw := may_word h
      have hd : txt.drop i = nm ++ r := hd
      refine K_word hw hd ht hr hl (LxK.nil ?_)
      obtain ⟨c, w', h1, _⟩ := hw
      rw [h1]; simp; omega
    · obtain ⟨d, hn⟩ := itoa_num h h'
      have hd : txt.drop i = itoaK n ++ r := hd
      refine LxK.tok (lx_num hd ht hn (tw_dig hr) (by omega) ho) (LxK.nil ?_)
      have : 0 < (itoaK n).length := by
        rcases hn.1 with h | h
        · rw [h]; exact List.length_pos_iff.2 hn.2.1
        · rw [h]; simp
      simp; omega
    · rcases h with rfl | rfl
      · exact K_word (raw := [102, 97, 108, 115, 101]) (word_of (by decide)) hd ht hr hl (LxK.nil (by simp; omega))
      · exact K_word (raw := [116, 114, 117, 101]) (word_of (by decide)) hd ht hr hl (LxK.nil (by simp; omega))
    · refine LxK.tok (lx_quote (s := tx) hd ht (by omega) (by omega)) (LxK.nil ?_)
      simp [quotedB]; omega
    · exact K_word (raw := [101, 109, 112, 116, 121]) (word_of (by decide)) hd ht hr hl (LxK.nil (by simp; omega))
    · exact K_word (raw := [117, 110, 105, 116]) (word_of (by decide)) hd ht hr hl (LxK.nil (by simp; omega))
  | .un k a, h, txt, l, i, r, ht, hl, ho, hd, hr => by
    have hlt := drop_lt hd (txt_ne h)
    rcases h.1 with rfl | rfl
    · have e : txtOf (.un 15 a) = [40, 110, 111, 116, 32] ++ txtOf a ++ [41] := rfl
      have ek : tkOf (.un 15 a) = (3, [40]) :: (0, [110, 111, 116]) :: (tkOf a ++ [(3, [41])]) := rfl
      rw [e] at hd ⊢
      rw [ek]
      have d0 : txt.drop i = 40 :: ([110, 111, 116] ++ (32 :: (txtOf a ++ (41 :: r)))) := by rw [hd]; simp
      have d1 := (drop_at d0).2.2
      have d2 := drop_app d1
      have d3 := (drop_at d2).2.2
      have d4 := drop_app d3
      refine K_sign d0 (.inl (by decide)) ht hl ?_
      refine K_word (word_of (by decide)) d1 ht rfl (by simp; omega) ?_
      refine LxK.sp d2 ht ?_
      refine (LxK.app (lex_tree a h.2 txt _ _ _ ht (by simp; omega) (.inr ⟨_, _, rfl, rfl⟩) d3 rfl) (fun ts hts => K_sign d4 (.inl (by decide)) ht hts (LxK.nil (by simp at hts ⊢; omega)))).cast rfl ?_
      simp; omega
    · have e : txtOf (.un 16 a) = [108, 101, 110, 40] ++ txtOf a ++ [41] := rfl
      have ek : tkOf (.un 16 a) = (0, [108, 101, 110]) :: (3, [40]) :: (tkOf a ++ [(3, [41])]) := rfl
      rw [e] at hd ⊢
      rw [ek]
      have d0 : txt.drop i = [108, 101, 110] ++ (40 :: (txtOf a ++ (41 :: r))) := by rw [hd]; simp
      have d1 := drop_app d0
      have d2 := (drop_at d1).2.2
      have d3 := drop_app d2
      refine K_word (word_of (by decide)) d0 ht rfl hl ?_
      refine K_sign d1 (.inl (by decide)) ht (by simp; omega) ?_
      refine (LxK.app (lex_tree a h.2 txt _ _ _ ht (by simp; omega) (.inr ⟨_, _, rfl, rfl⟩) d2 rfl) (fun ts hts => K_sign d3 (.inl (by decide)) ht hts (LxK.nil (by simp at hts ⊢; omega)))).cast rfl ?_
      simp; omega
  | .bi k a b, h, txt, l, i, r, ht, hl, ho, hd, hr => by
    have hlt := drop_lt hd (txt_ne h)
    by_cases hk : infx k = true
    · have e : txtOf (.bi k a b) = [40] ++ txtOf a ++ ([32] ++ sgn k ++ [32]) ++ txtOf b ++ [41] := by simp only [txtOf, hk, if_true]
      have ek : tkOf (.bi k a b) = (3, [40]) :: (tkOf a ++ (sk k, sgn k) :: (tkOf b ++ [(3, [41])])) := by simp only [tkOf, hk, if_true]
      rw [e] at hd ⊢
      rw [ek]
      have d0 : txt.drop i = 40 :: (txtOf a ++ (32 :: (sgn k ++ (32 :: (txtOf b ++ (41 :: r)))))) := by rw [hd]; simp
      have d1 := (drop_at d0).2.2
      have d2 := drop_app d1
      have d3 := (drop_at d2).2.2
      have d4 := drop_app d3
      have d5 := (drop_at d4).2.2
      have d6 := drop_app d5
      refine K_sign d0 (.inl (by decide)) ht hl ?_
      refine (LxK.app (lex_tree a h.2.1 txt _ _ _ ht (by simp; omega) (.inr ⟨_, _, rfl, rfl⟩) d1 rfl) (fun ts hts => LxK.sp d2 ht ?_)).cast rfl (i2 := i + 1 + (txtOf a).length + 1 + (sgn k).length + 1 + (txtOf b).length + 1) (by simp; omega)
      have rest : ∀ x : TK, closedB x.k x.s = false → 0 < (sgn k).length → LxK txt (l ++ [(⟨3, [40], i⟩ : TK)] ++ ts ++ [x]) (i + 1 + (txtOf a).length + 1 + (sgn k).length) (tkOf b ++ [(3, [41])]) (i + 1 + (txtOf a).length + 1 + (sgn k).length + 1 + (txtOf b).length + 1) := by
        intro x hx hs
        refine LxK.sp d4 ht ?_
        exact LxK.app (lex_tree b h.2.2 txt _ _ _ ht (by simp at hts ⊢; omega) (.inr ⟨_, _, rfl, hx⟩) d5 rfl) (fun ts' hts' => K_sign d6 (.inl (by decide)) ht hts' (LxK.nil (by simp at hts' ⊢; omega)))
      have hk2 : k = 6 ∨ k = 7 ∨ k = 8 ∨ k = 9 ∨ k = 10 ∨ k = 11 ∨ k = 12 ∨ k = 13 ∨ k = 14 := by
        unfold infx at hk; simp only [Bool.and_eq_true, decide_eq_true_eq] at hk; omega
      have hts2 : (l ++ [(⟨3, [40], i⟩ : TK)] ++ ts).length ≤ i + 1 + (txtOf a).length + 1 := by omega
      rcases hk2 with rfl | rfl | rfl | rfl | rfl | rfl | rfl | rfl | rfl
      · exact K_sign d3 (.inl (by decide)) ht hts2 (rest _ rfl (by decide))
      · exact K_sign d3 (.inr ⟨rfl, _, rfl⟩) ht hts2 (rest _ rfl (by decide))
      · exact K_sign d3 (.inl (by decide)) ht hts2 (rest _ rfl (by decide))
      · exact K_sign d3 (.inl (by decide)) ht hts2 (rest _ rfl (by decide))
      · exact K_word (raw := [109, 111, 100]) (word_of (by decide)) d3 ht rfl hts2 (rest _ rfl (by decide))
      · exact K_eqs d3 ht hts2 (rest _ rfl (by decide))
      · exact K_sign d3 (.inl (by decide)) ht hts2 (rest _ rfl (by decide))
      · exact K_word (raw := [97, 110, 100]) (word_of (by decide)) d3 ht rfl hts2 (rest _ rfl (by decide))
      · exact K_word (raw := [111, 114]) (word_of (by decide)) d3 ht rfl hts2 (rest _ rfl (by decide))
    · have e : txtOf (.bi k a b) = (cll k ++ [40]) ++ txtOf a ++ [44, 32] ++ txtOf b ++ [41] := by simp only [txtOf, hk, if_false]; rfl
      have ek : tkOf (.bi k a b) = (0, cll k) :: (3, [40]) :: (tkOf a ++ (3, [44]) :: (tkOf b ++ [(3, [41])])) := by simp only [tkOf, hk, if_false]; rfl
      rw [e] at hd ⊢
      rw [ek]
      have d0 : txt.drop i = cll k ++ (40 :: (txtOf a ++ (44 :: (32 :: (txtOf b ++ (41 :: r)))))) := by rw [hd]; simp
      have d1 := drop_app d0
      have d2 := (drop_at d1).2.2
      have d3 := drop_app d2
      have d4 := (drop_at d3).2.2
      have d5 := (drop_at d4).2.2
      have d6 := drop_app d5
      have hcl : 0 < (cll k).length := by obtain ⟨c, w, h, _⟩ := cll_word k; rw [h]; simp
      refine K_word (cll_word k) d0 ht rfl hl ?_
      refine K_sign d1 (.inl (by decide)) ht (by simp; omega) ?_
      refine (LxK.app (lex_tree a h.2.1 txt _ _ _ ht (by simp; omega) (.inr ⟨_, _, rfl, rfl⟩) d2 rfl) (fun ts hts => K_sign d3 (.inl (by decide)) ht hts (LxK.sp d4 ht ?_))).cast rfl
        (i2 := i + (cll k).length + 1 + (txtOf a).length + 1 + 1 + (txtOf b).length + 1) (by simp; omega)
      exact LxK.app (lex_tree b h.2.2 txt _ _ _ ht (by simp at hts ⊢; omega) (.inr ⟨_, _, rfl, rfl⟩) d5 rfl) (fun ts' hts' => K_sign d6 (.inl (by decide)) ht hts' (LxK.nil (by simp at hts' ⊢; omega)))
theorem tk_pos : ∀ t : TT, 0 < (tkOf t).length
  | .lf k nm n tx => by
    simp only [tkOf]
    repeat' split
    all_goals simp
  | .un k a => by
    simp only [tkOf]
    split <;> simp
  | .bi k a b => by
    simp only [tkOf]
    split <;> simp
theorem plain_tk (l : List TK) : plainRs (whole (l.map cT)) = l.map cT := by
  unfold whole
  rw [List.drop_zero, List.take_length]
  induction l with
  | nil => rfl
  | cons c r ih => exact congrArg (fun x => cT c :: x) ih
theorem tokens_ok {t : TT} (h : okT t) (hl : (txtOf t).length ≤ 16000) : ∃ (l : List TK) (c : Nat), l.map kt = tkOf t ∧ ∀ n, c ≤ n → T n 6 [.one (sC (txtOf t))] [] = some (.tup [.one (lC (.im false) 3 (l.map cT)), .one (iC 0), .one (iC 0)], []) := by
  have hne := txt_ne h
  obtain ⟨l, h1, ⟨c, h2⟩, h3⟩ := lex_tree t h (txtOf t) [] 0 [] (by omega) (by simp) (.inl rfl) (by simp) rfl
  rw [List.nil_append] at h2
  refine ⟨l, c + (txtOf t).length + 300, h1, fun n hn => ?_⟩
  generalize txtOf t = txt at *
  obtain ⟨m, rfl⟩ : ∃ m, n = m + 1 + (c + 1) + 1 := ⟨n - c - 3, by omega⟩
  refine eq2_ ?_
  refine (bif_f (decide_eq_false (by rw [natI_eq]; omega))).trans ?_
  have h4 := h2 (m + 1 + (c + 1)) (m + (c + 1)) (m + 2) (by omega)
  rw [show m + 2 + c = m + 1 + (c + 1) by omega] at h4
  refine (show _ = _ from h4).trans ?_
  cases l with
  | nil =>
    have hk : (tkOf t).length = 0 := by rw [← h1]; rfl
    exact absurd hk (by have := tk_pos t; omega)
  | cons x r =>
    refine lq2__0_1e.trans ?_
    rw [bif_f (decide_eq_false (show ¬ (((0 + txt.length : Nat) : Int) < natI txt.length) by rw [natI_eq]; omega))]
    refine (gd_t (decide_eq_true (by omega))).trans ?_
    rw [plain_tk]
end
section
open Go Go.Abs PT
def At (l : List TK) (a : Nat) (tk : List (Int × BB)) : Prop := ∀ (i : Nat) x, tk[i]? = some x → ∃ t, l[a + i]? = some t ∧ t.k = x.1 ∧ t.s = x.2
theorem At.head {l : List TK} {a : Nat} {x : Int × BB} {r : List (Int × BB)} (h : At l a (x :: r)) : ∃ t, l[a]? = some t ∧ t.k = x.1 ∧ t.s = x.2 := h 0 x rfl
theorem At.tail {l : List TK} {a : Nat} {x : Int × BB} {r : List (Int × BB)} (h : At l a (x :: r)) : At l (a + 1) r := fun i y hy => by
  have := h (i + 1) y (by simpa using hy)
  rwa [show a + 1 + i = a + (i + 1) by omega]
theorem At.left {l : List TK} {a : Nat} {p q : List (Int × BB)} (h : At l a (p ++ q)) : At l a p := fun i y hy =>
  h i y (by rw [List.getElem?_append_left (List.getElem?_eq_some_iff.1 hy).1]; exact hy)
theorem At.right {l : List TK} {a : Nat} {p q : List (Int × BB)} (h : At l a (p ++ q)) : At l (a + p.length) q := fun i y hy => by
  have := h (p.length + i) y (by rw [List.getElem?_append_right (by omega)]; simpa using hy)
  rwa [show a + p.length + i = a + (p.length + i) by omega]
noncomputable abbrev LP (x0 : Bool) (x1 : RR) (L : List TK) (m n k i o p : Nat) : OR := lq0__0_0 (T m) (n + 1) k x0 x1 false (L.map cT) 0 (o : Int) (p : Int) (i : Int)
def Ct (x0 : Bool) (x1 : RR) (L : List TK) (i o p i' o' p' : Nat) : Prop := ∃ c, ∀ m n k, LP x0 x1 L m n (k + c) i o p = LP x0 x1 L m n k i' o' p'
section
variable {x0 : Bool} {x1 : RR} {L : List TK} {i o p i1 o1 p1 i2 o2 p2 : Nat}
theorem Ct.trans (h : Ct x0 x1 L i o p i1 o1 p1) (h' : Ct x0 x1 L i1 o1 p1 i2 o2 p2) : Ct x0 x1 L i o p i2 o2 p2 := by
  obtain ⟨c, h⟩ := h
  obtain ⟨c', h'⟩ := h'
  refine ⟨c' + c, fun m n k => ?_⟩
  rw [← Nat.add_assoc, h m n (k + c'), h' m n k]
theorem Ct.cast (h : Ct x0 x1 L i o p i1 o1 p1) (h1 : i1 = i2) (h2 : o1 = o2) (h3 : p1 = p2) : Ct x0 x1 L i o p i2 o2 p2 := by subst h1 h2 h3; exact h
theorem iK {t : TK} {K : Int × Unit → OR} {z : OR} (ht : L[i]? = some t) (h : K (t.k, ()) = z) : iR sh0 0 1 (L.map cT) (i : Int) K = z :=
  iR_of (r := cT t) rfl (by rw [List.getElem?_map, ht]; rfl) (show 0 + 1 ≤ 3 by decide) rfl h
theorem iS {t : TK} {K : BB × Unit → OR} {z : OR} (ht : L[i]? = some t) (h : K (t.s, ()) = z) : iR [.str] 1 1 (L.map cT) (i : Int) K = z :=
  iR_of (r := cT t) rfl (by rw [List.getElem?_map, ht]; rfl) (show 1 + 1 ≤ 3 by decide) rfl h
theorem lt_of {t : TK} (ht : L[i]? = some t) : decide ((i : Int) < natI (L.map cT).length) = true :=
  decide_eq_true (by rw [List.length_map, natI_eq]; have := (List.getElem?_eq_some_iff.1 ht).1; omega)
theorem next {m n k : Nat} (hi : i < 1000000) : lq0__1_0 (T m) (n + 1) k (n + 1) x0 x1 false (L.map cT) 0 (o : Int) (p : Int) (i : Int) = LP x0 x1 L m n k (i + 1) o p := by
  rw [lq0__1_0e, bif_f (decide_eq_false (show ¬ (o : Int) < 0 by omega)), w64_succ i hi]
theorem ct_open {t : TK} (ht : L[i]? = some t) (hk : t.k = 3) (hs : t.s = [40]) (hi : i < 1000000) (ho : o < 1000000) : Ct x0 x1 L i o p (i + 1) (o + 1) p := by
  refine ⟨1, fun m n k => ?_⟩
  refine lq0__0_0e.trans ?_
  refine bif_th (lt_of ht) (iK ht (bif_th (by dsimp only; rw [hk]; rfl) (iS ht (bif_th (by dsimp only; rw [hs]; rfl) ?_))))
  rw [w64_succ o ho]
  exact next hi
theorem ct_close {t : TK} (ht : L[i]? = some t) (hk : t.k = 3) (hs : t.s = [41]) (hi : i < 1000000) (ho : o < 1000000) : Ct x0 x1 L i (o + 1) p (i + 1) o p := by
  refine ⟨1, fun m n k => ?_⟩
  refine lq0__0_0e.trans ?_
  refine bif_th (lt_of ht) (iK ht (bif_th (by dsimp only; rw [hk]; rfl) (iS ht (bif_fh (by dsimp only; rw [hs]; rfl) (iK ht (bif_th (by dsimp only; rw [hk]; rfl) (iS ht (bif_th (by dsimp only; rw [hs]; rfl) ?_))))))))
  rw [w64_len o ho]
  exact next hi
theorem ct_comma {t : TK} (ht : L[i]? = some t) (hk : t.k = 3) (hs : t.s = [44]) (hi : i < 1000000) : Ct x0 x1 L i o p (i + 1) o p := by
  refine ⟨1, fun m n k => ?_⟩
  refine lq0__0_0e.trans ?_
  refine bif_th (lt_of ht) (iK ht (bif_th (by dsimp only; rw [hk]; rfl) (iS ht (bif_fh (by dsimp only; rw [hs]; rfl) (iK ht (bif_th (by dsimp only; rw [hk]; rfl) (iS ht (bif_fh (by dsimp only; rw [hs]; rfl) (iK ht (bif_fh (by dsimp only; rw [hk]; rfl) (iS ht (bif_fh (by dsimp only; rw [hs]; rfl) ?_))))))))))))
  exact next hi
theorem ct_other {t : TK} (ht : L[i]? = some t) (h : t.k ≠ 3 ∨ (t.k = 3 ∧ (t.s == [40]) = false ∧ (t.s == [41]) = false ∧ (t.s == [44]) = false)) (hi : i < 1000000) (hp : p < 1000000) : Ct x0 x1 L i o p (i + 1) o (p + 1) := by
  refine ⟨1, fun m n k => ?_⟩
  refine lq0__0_0e.trans ?_
  have hw := w64_succ p hp
  rcases h with h | ⟨hk, h1, h2, h3⟩
  · refine bif_th (lt_of ht) (iK ht (bif_fh (by simpa using h) (iK ht (bif_fh (by simpa using h) (iK ht (bif_th (by simpa using h) ?_))))))
    rw [hw]
    exact next hi
  · refine bif_th (lt_of ht) (iK ht (bif_th (by dsimp only; rw [hk]; rfl) (iS ht (bif_fh h1 (iK ht (bif_th (by dsimp only; rw [hk]; rfl) (iS ht (bif_fh h2 (iK ht (bif_fh (by dsimp only; rw [hk]; rfl) (iS ht (bif_th (by dsimp only; rw [h3]; rfl) ?_))))))))))))
    rw [hw]
    exact next hi
end
section
variable {x0 : Bool} {x1 : RR} {L : List TK}
theorem ct_word {i o p : Nat} {k : Int} {w : BB} {r : List (Int × BB)} (hA : At L i ((k, w) :: r)) (hk : k ≠ 3) (hi : i < 1000000) (hp : p < 1000000) : Ct x0 x1 L i o p (i + 1) o (p + 1) := by
  obtain ⟨t, h1, h2, h3⟩ := hA.head
  exact ct_other h1 (.inl (by rw [h2]; exact hk)) hi hp
theorem ct_op {i o p : Nat} {r : List (Int × BB)} (hA : At L i ((3, [40]) :: r)) (hi : i < 1000000) (ho : o < 1000000) : Ct x0 x1 L i o p (i + 1) (o + 1) p := by
  obtain ⟨t, h1, h2, h3⟩ := hA.head
  exact ct_open h1 h2 h3 hi ho
theorem ct_cl {i o p : Nat} {r : List (Int × BB)} (hA : At L i ((3, [41]) :: r)) (hi : i < 1000000) (ho : o < 1000000) : Ct x0 x1 L i (o + 1) p (i + 1) o p := by
  obtain ⟨t, h1, h2, h3⟩ := hA.head
  exact ct_close h1 h2 h3 hi ho
theorem ct_co {i o p : Nat} {r : List (Int × BB)} (hA : At L i ((3, [44]) :: r)) (hi : i < 1000000) : Ct x0 x1 L i o p (i + 1) o p := by
  obtain ⟨t, h1, h2, h3⟩ := hA.head
  exact ct_comma h1 h2 h3 hi
theorem ct_sgn {i o p : Nat} {k : Int} {r : List (Int × BB)} (hk : infx k = true) (hA : At L i ((sk k, sgn k) :: r)) (hi : i < 1000000) (hp : p < 1000000) : Ct x0 x1 L i o p (i + 1) o (p + 1) := by
  obtain ⟨t, h1, h2, h3⟩ := hA.head
  have hk2 : k = 6 ∨ k = 7 ∨ k = 8 ∨ k = 9 ∨ k = 10 ∨ k = 11 ∨ k = 12 ∨ k = 13 ∨ k = 14 := by
    unfold infx at hk; simp only [Bool.and_eq_true, decide_eq_true_eq] at hk; omega
  refine ct_other h1 ?_ hi hp
  rw [h2, h3]
  rcases hk2 with rfl | rfl | rfl | rfl | rfl | rfl | rfl | rfl | rfl <;> decide
theorem ct_tree : ∀ (t : TT), okT t → ∀ (i o p : Nat), At L i (tkOf t) → i + (tkOf t).length < 900000 → o + t.deep < 900000 → p + t.size < 900000 → Ct x0 x1 L i o p (i + (tkOf t).length) o (p + t.size)
  | .lf k nm n tx, h, i, o, p, hA, hi, ho, hp => by
    simp only [PT.TT.size] at hp
    rcases h with ⟨rfl, h, rfl, rfl⟩ | ⟨rfl, rfl, rfl, h, h'⟩ | ⟨rfl, rfl, rfl, h⟩ | ⟨rfl, rfl, rfl, h⟩ | ⟨rfl, rfl, rfl, rfl⟩ | ⟨rfl, rfl, rfl, rfl⟩
    · exact ct_word (k := 0) (r := []) hA (by decide) (by omega) (by omega)
    · exact ct_word (k := 1) (r := []) hA (by decide) (by omega) (by omega)
    · rcases h with rfl | rfl
      · exact ct_word (k := 0) (r := []) hA (by decide) (by omega) (by omega)
      · exact ct_word (k := 0) (r := []) hA (by decide) (by omega) (by omega)
    · exact ct_word (k := 2) (r := []) hA (by decide) (by omega) (by omega)
    · exact ct_word (k := 0) (r := []) hA (by decide) (by omega) (by omega)
    · exact ct_word (k := 0) (r := []) hA (by decide) (by omega) (by omega)
  | .un k a, h, i, o, p, hA, hi, ho, hp => by
    simp only [PT.TT.size] at hp
    simp only [PT.TT.deep] at ho
    rcases h.1 with rfl | rfl
    · have ek : tkOf (.un 15 a) = (3, [40]) :: (0, [110, 111, 116]) :: (tkOf a ++ [(3, [41])]) := rfl
      rw [ek] at hA hi ⊢
      simp only [List.length_cons, List.length_append, List.length_nil] at hi
      refine ((ct_op hA (by omega) (by omega)).trans ((ct_word hA.tail (by decide) (by omega) (by omega)).trans ((ct_tree a h.2 (i + 1 + 1) (o + 1) (p + 1) hA.tail.tail.left (by omega) (by omega) (by omega)).trans (ct_cl hA.tail.tail.right (by omega) (by omega))))).cast ?_ rfl ?_
      · simp; omega
      · simp only [PT.TT.size]; omega
    · have ek : tkOf (.un 16 a) = (0, [108, 101, 110]) :: (3, [40]) :: (tkOf a ++ [(3, [41])]) := rfl
      rw [ek] at hA hi ⊢
      simp only [List.length_cons, List.length_append, List.length_nil] at hi
      refine ((ct_word hA (by decide) (by omega) (by omega)).trans ((ct_op hA.tail (by omega) (by omega)).trans ((ct_tree a h.2 (i + 1 + 1) (o + 1) (p + 1) hA.tail.tail.left (by omega) (by omega) (by omega)).trans (ct_cl hA.tail.tail.right (by omega) (by omega))))).cast ?_ rfl ?_
      · simp; omega
      · simp only [PT.TT.size]; omega
  | .bi k a b, h, i, o, p, hA, hi, ho, hp => by
    simp only [PT.TT.size] at hp
    simp only [PT.TT.deep] at ho
    by_cases hk : infx k = true
    · have ek : tkOf (.bi k a b) = (3, [40]) :: (tkOf a ++ (sk k, sgn k) :: (tkOf b ++ [(3, [41])])) := by simp only [tkOf, hk, if_true]
      rw [ek] at hA hi ⊢
      simp only [List.length_cons, List.length_append, List.length_nil] at hi
      have h1 := hA.tail.right
      refine ((ct_op hA (by omega) (by omega)).trans ((ct_tree a h.2.1 (i + 1) (o + 1) p hA.tail.left (by omega) (by omega) (by omega)).trans ((ct_sgn hk h1 (by omega) (by omega)).trans ((ct_tree b h.2.2 _ (o + 1) _ h1.tail.left (by omega) (by omega) (by omega)).trans (ct_cl h1.tail.right (by omega) (by omega)))))).cast ?_ rfl ?_
      · simp; omega
      · simp only [PT.TT.size]; omega
    · have ek : tkOf (.bi k a b) = (0, cll k) :: (3, [40]) :: (tkOf a ++ (3, [44]) :: (tkOf b ++ [(3, [41])])) := by simp only [tkOf, hk, if_false]; rfl
      rw [ek] at hA hi ⊢
      simp only [List.length_cons, List.length_append, List.length_nil] at hi
      have h1 := hA.tail.tail.right
      refine ((ct_word hA (by decide) (by omega) (by omega)).trans ((ct_op hA.tail (by omega) (by omega)).trans ((ct_tree a h.2.1 (i + 1 + 1) (o + 1) (p + 1) hA.tail.tail.left (by omega) (by omega) (by omega)).trans ((ct_co h1 (by omega)).trans ((ct_tree b h.2.2 _ (o + 1) _ h1.tail.left (by omega) (by omega) (by omega)).trans (ct_cl h1.tail.right (by omega) (by omega))))))).cast ?_ rfl ?_
      · simp; omega
      · simp only [PT.TT.size]; omega
end
end
section
open Go Go.Abs
abbrev stp0 : List D := [.int .i64 0, .str [], .str [], .str [], .str [], .int .i64 (-1), .sl (.im true) 1 [], .sl (.im true) 3 [], .sl (.im true) 3 [], .int .i64 (-1)]
abbrev prc0 : List D := [.str [109, 97, 105, 110], .sl (.im true) 3 [], .sl (.im true) 6 [], .sl (.im false) 10 [stp0]]
theorem check_ok (m : Nat) : T (m + 60) 24 [.agg [lC (.im true) 3 [], lC (.im true) 2 [], lC (.im false) 4 [prc0]]] [] = some (.agg [iC 0, iC 0, iC 0], []) := by kernel_rfl
end
section
open Go Go.Abs
theorem proc_ok (m : Nat) : T (m + 60) 28 [pE, .agg [sC [109, 97, 105, 110], lC (.im true) 3 [], lC (.im true) 6 [], lC (.im false) 10 [stp0]]] [bx sh2 ((), (.im true, []), ())] = some (.tup [], [bx sh2 ((), (.own, D.strB [112, 114, 111, 99, 32, 109, 97, 105, 110, 40, 41, 32, 123, 10, 32, 32, 115, 116, 111, 112, 10, 125, 10]), ())]) := by kernel_rfl
end
section
open Go Go.Abs
theorem turns_ok (m : Nat) : T (m + 60) 29 [.agg [sC [], lC (.im false) 3 [[(.int .i64 2), (.str [120]), (.sl (.im false) 4 [[(.str [120]), (.int .i64 5), (.str [112, 46, 97]), (.int .i64 0)]])]]]] [] = some (.one (bC true), []) := by kernel_rfl
end
section
open Go Go.Abs
theorem term0_ok (m : Nat) : T (m + 60) 7 [.one (lC (.im false) 6 [[(.int .i64 0), (.str [120]), (.int .i64 0), (.str []), (.int .i64 (-1)), (.int .i64 (-1))], [(.int .i64 1), (.str []), (.int .i64 (-1)), (.str []), (.int .i64 (-1)), (.int .i64 (-1))], [(.int .i64 6), (.str []), (.int .i64 0), (.str []), (.int .i64 0), (.int .i64 1)]]), .one (iC 2)] [] = some (.one (sC [40, 120, 32, 43, 32, 45, 49, 41]), []) := by kernel_rfl
end
section
open Go Go.Abs
theorem tr_9 {o : OR} {K : RowT sh9 × Unit → OR} {z : OR} {a b c : Int} (h : o = some (.agg [iC a, iC b, iC c], [])) (h2 : K ((a, b, c, ()), ()) = z) : tRes rs9 o K = z := tr_v0 (v := (a, b, c, ())) h rfl h2
theorem tr_p {o : OR} {K : Unit × RowT sh2 × Unit → OR} {z : OR} {p : RowT sh2} (h : o = some (.tup [], [bx sh2 p])) (h2 : K ((), p, ()) = z) : tRes rs4 o K = z := tr_up h h2
theorem tr_str {o : OR} {K : BB × RowT sh3 × Unit → OR} {z : OR} {s : BB} (h : o = some (.one (sC s), [bx sh3 ((), (), ())])) (h2 : K (s, ((), (), ()), ()) = z) : tRes rs5 o K = z := by
  subst h; exact h2
theorem prog_ok (m : Nat) : T (m + 61) 8 [.agg [lC (.im true) 3 [], lC (.im true) 2 [], lC (.im false) 4 [prc0]]] [] = some (.one (sC [112, 114, 111, 99, 32, 109, 97, 105, 110, 40, 41, 32, 123, 10, 32, 32, 115, 116, 111, 112, 10, 125, 10]), []) := by
  refine eq4_ (tr_9 (check_ok m) (bif_fh rfl ?_))
  rw [lq4__2_0e]
  refine bif_fh rfl ?_
  rw [lq4__1_0e]
  refine bif_fh rfl ?_
  rw [lq4__0_0e]
  refine bif_th rfl (iR_of (i := 0) (v := ([109, 97, 105, 110], (true, []), (true, []), (false, [stp0]), ())) rfl (r := prc0) rfl (by decide) rfl (tr_p (proc_ok m) ?_))
  dsimp only
  rw [lq4__0_0e]
  exact bif_fh (by decide) (tr_str (string' (m + 60) (by omega) [112, 114, 111, 99, 32, 109, 97, 105, 110, 40, 41, 32, 123, 10, 32, 32, 115, 116, 111, 112, 10, 125, 10] (by decide) (by decide)) rfl)
theorem carries_ok (m : Nat) : T (m + 61) 9 [.agg [iC 5, sC [112, 46, 97]]] [] = some (.one (sC [99, 104, 97, 110, 32, 112, 46, 97]), []) := by
  refine eqk_ (tr_b (turns_ok m) (bif_fh rfl ?_))
  exact bif_fh rfl (bif_fh rfl (bif_fh rfl (bif_fh rfl (bif_fh rfl (g63_th (show 5 + 3 ≤ 1000000 by decide) rfl)))))
theorem first_ok : ∃ c, ∀ n, c ≤ n → T n 4 [] [] = some (.one (bC true), []) := by
  refine ⟨70, fun n hn => ?_⟩
  obtain ⟨m, rfl⟩ : ∃ m, n = m + 62 := ⟨n - 62, by omega⟩
  exact eqi_ (tr_s (term0_ok (m + 1)) (bif_th rfl (tr_s (prog_ok m) (bif_th rfl (tr_s (carries_ok m) rfl)))))
end
section
open Go Go.Abs PT
theorem qc_len (c : UInt8) : (qc c).length ≤ 4 := by
  unfold qc
  repeat' split
  all_goals simp
theorem flat_len : ∀ s : BB, (s.flatMap qc).length ≤ 4 * s.length
  | [] => by simp
  | c :: s => by
    have := qc_len c
    have := flat_len s
    rw [List.flatMap_cons, List.length_append, List.length_cons]; omega
theorem txt_len : ∀ t : TT, okT t → (txtOf t).length ≤ 100 * t.size
  | .lf k nm n tx, h => by
    simp only [PT.TT.size]
    rcases h with ⟨rfl, h, rfl, rfl⟩ | ⟨rfl, rfl, rfl, h, h'⟩ | ⟨rfl, rfl, rfl, h⟩ | ⟨rfl, rfl, rfl, h⟩ | ⟨rfl, rfl, rfl, rfl⟩ | ⟨rfl, rfl, rfl, rfl⟩
    · show nm.length ≤ 100 * 1
      cases nm with
      | nil => simp
      | cons c r =>
        have h : (decide (r.length + 1 ≤ 12) && isLet c && !(kwB (c :: r)) && r.all isLD) = true := h
        simp only [Bool.and_eq_true, decide_eq_true_eq] at h
        simp; omega
    · have := itoa_len h h'
      show (itoaK n).length ≤ 100 * 1
      omega
    · rcases h with rfl | rfl <;> simp [txtOf]
    · show (quotedB tx).length ≤ 100 * 1
      have := flat_len tx
      unfold quotedB
      rw [List.length_cons, List.length_append, List.length_singleton]; omega
    · simp [txtOf]
    · simp [txtOf]
  | .un k a, h => by
    have := txt_len a h.2
    have := cll_len k
    simp only [txtOf, PT.TT.size]
    split <;> simp <;> omega
  | .bi k a b, h => by
    have := txt_len a h.2.1
    have := txt_len b h.2.2
    have := cll_len k
    have := sgn_len k
    simp only [txtOf, PT.TT.size]
    split <;> simp <;> omega
theorem tk_len : ∀ t : TT, (tkOf t).length ≤ 10 * t.size
  | .lf k nm n tx => by
    simp only [tkOf, PT.TT.size]
    repeat' split
    all_goals simp
  | .un k a => by
    have := tk_len a
    simp only [tkOf, PT.TT.size]
    split <;> simp <;> omega
  | .bi k a b => by
    have := tk_len a
    have := tk_len b
    simp only [tkOf, PT.TT.size]
    split <;> simp <;> omega
theorem tr_tok {l : List TK} {o : OR} {K : ((Bool × RR) × Int × Int × Unit) × Unit → OR} {z : OR} (h : o = some (.tup [.one (lC (.im false) 3 (l.map cT)), .one (iC 0), .one (iC 0)], [])) (h2 : K (((false, l.map cT), 0, 0, ()), ()) = z) : tRes rs1 o K = z :=
  tr_t0 (v := ((false, l.map cT), 0, 0, ())) h rfl h2
theorem At_of {l : List TK} {tk : List (Int × BB)} (h : l.map kt = tk) : At l 0 tk := by
  subst h
  intro i x hx
  rw [List.getElem?_map] at hx
  cases hl : l[i]? with
  | none => rw [hl] at hx; cases hx
  | some t =>
    rw [hl] at hx
    cases hx
    exact ⟨t, by rw [Nat.zero_add]; exact hl, rfl, rfl⟩
theorem law (x0 : Bool) (l : List TR) (root : Int) (hr : ∀ t ∈ l, inR t) : ∃ N, T N 3 [.one (lC (.im x0) 6 (l.map cR)), .one (iC root)] [] = some (.one (bC true), []) := by
  obtain ⟨c4, hf⟩ := first_ok
  by_cases h1 : l.length > 100
  · refine ⟨c4 + 300 + 1, ?_⟩
    refine eq0_ (tr_b (hf _ (by omega)) (bif_fh rfl ?_))
    exact bif_th (decide_eq_true (by rw [List.length_map, natI_eq]; omega)) rfl
  · by_cases h2 : mayT l root = true
    · obtain ⟨t, ok, hat, hd, hs⟩ := may_tree hr h2
      have hp := PT.TT.size_pos t
      have hl := txt_len t ok
      have hk := tk_len t
      have hM : ∀ n, 100 ≤ n → T n 5 [.one (lC (.im x0) 6 (l.map cR)), .one (iC root)] [] = some (.one (bC true), []) := fun n hn => by rw [mayT_ok root n hn, h2]
      obtain ⟨c7, h7⟩ := term_txt x0 (l.map cR) ok hat (by omega) hM
      obtain ⟨L, c6, hA, h6⟩ := tokens_ok ok (by omega)
      obtain ⟨c, hc⟩ := ct_tree (x0 := x0) (x1 := l.map cR) t ok 0 0 0 (At_of hA) (by omega) (by omega) (by omega)
      refine ⟨c4 + c7 + c6 + c + 300 + 1, ?_⟩
      generalize hn : c4 + c7 + c6 + c + 300 = n
      obtain ⟨m, rfl⟩ : ∃ m, n = m + 1 + c := ⟨n - 1 - c, by omega⟩
      refine eq0_ (tr_b (hf _ (by omega)) (bif_fh rfl (bif_fh (decide_eq_false (by rw [List.length_map, natI_eq]; omega)) (tr_b (hM _ (by omega)) (bif_fh rfl ?_)))))
      obtain ⟨q, hq⟩ : ∃ q, m + 1 + c = q + 1 := ⟨m + c, by omega⟩
      have e2 : ∀ z : OR, lq0__0_0 (T (m + 1 + c)) (m + 1 + c) (m + 1 + c) x0 (l.map cR) false (L.map cT) 0 0 0 0 = z → lq0__2_0 (T (m + 1 + c)) (m + 1 + c) (m + 1 + c) x0 (l.map cR) root = z := by
        intro z h
        rw [show lq0__2_0 (T (m + 1 + c)) (m + 1 + c) (m + 1 + c) x0 (l.map cR) root = lq0__2_0 (T (m + 1 + c)) (m + 1 + c) (q + 1) x0 (l.map cR) root by rw [hq]]
        refine lq0__2_0e.trans ?_
        exact tr_s (h7 _ (by omega)) (tr_tok (h6 _ (by omega)) h)
      refine e2 _ ?_
      have h8 := hc (m + 1 + c) q (m + 1)
      unfold LP at h8
      rw [← hq] at h8
      refine (show _ = _ from h8).trans ?_
      have hLl : L.length = (tkOf t).length := by rw [← hA, List.length_map]
      refine lq0__0_0e.trans ?_
      refine bif_fh (decide_eq_false (by rw [List.length_map, natI_eq]; omega)) (bif_th rfl (bif_th rfl (bif_th (decide_eq_true (by rw [List.length_map, natI_eq]; omega)) ?_)))
      rw [decide_eq_true (show ((0 + t.size : Nat) : Int) ≥ 1 by omega)]
    · refine ⟨c4 + 300 + 1, ?_⟩
      refine eq0_ (tr_b (hf _ (by omega)) (bif_fh rfl (bif_fh (decide_eq_false (by rw [List.length_map, natI_eq]; omega)) (tr_b ((mayT_ok root _ (by omega)).trans (by rw [show mayT l root = false by simpa using h2])) (bif_th rfl rfl)))))
end
end Go.Proofs.YtaifamiafiefkaaGreatDoor
