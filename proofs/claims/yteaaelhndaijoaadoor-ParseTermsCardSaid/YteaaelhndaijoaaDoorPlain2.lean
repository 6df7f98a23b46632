/- What the functions that the law reaches answer, in plain data. -/
import Derived.Test.YteaaelhndaijoaaDoorPlain1
set_option maxRecDepth 100000
set_option maxHeartbeats 1000000
set_option linter.unusedVariables false
set_option linter.unusedSimpArgs false
namespace Go.Proofs.YteaaelhndaijoaaDoor
section
open Go Go.Abs PT
section
variable {R : Type}
theorem decBs2 (ds ds' : List DS) (p : RowT ds) (q : RowT ds') : decBs [ds, ds'] [bx ds p, bx ds' q] = some (p, q, ()) := by
  have h := unbx_bx ds p
  have h' := unbx_bx ds' q
  unfold unbx at h h'
  simp only [decBs, h, h']
theorem res_b2 {ds ds' : List DS} (b : Bool) (p : RowT ds) (q : RowT ds') (K : Bool × RowT ds × RowT ds' × Unit → Option R) : tRes (.val (.one .bool) [ds, ds']) (some (.one (bC b), [bx ds p, bx ds' q])) K = K (b, p, q, ()) := by
  simp only [tRes, decR, decV, decD, decBs2]
theorem res_u2 {ds ds' : List DS} (p : RowT ds) (q : RowT ds') (K : Unit × RowT ds × RowT ds' × Unit → Option R) : tRes (.tup [] [ds, ds']) (some (.tup [], [bx ds p, bx ds' q])) K = K ((), p, q, ()) := by
  simp only [tRes, decR, decVs, decBs2]
end
abbrev S0 : RowT sh15 := (0, [], [], [], [], -1, (true, []), (true, []), (true, []), -1, ())
abbrev rowS (k : Int) (tm nx : Int) : List D := [.int .i64 k, .str [], .str [], .str [], .str [], .int .i64 tm, .sl (.im true) 1 [], .sl (.im true) 3 [], .sl (.im true) 3 [], .int .i64 nx]
theorem At_map {l : List TK} {tk : List (Int × BB)} (h : l.map kt = tk) : At l 0 tk := by
  intro i x hx
  rw [← h, List.getElem?_map] at hx
  cases hl : l[i]? with
  | none => rw [hl] at hx; cases hx
  | some t =>
    rw [hl] at hx
    have : kt t = x := by simpa using hx
    subst this
    exact ⟨t, by rw [Nat.zero_add]; exact hl, rfl, rfl⟩
theorem plain_tr : ∀ l : List TR, plainRs (l.map cR) = l.map cR
  | [] => rfl
  | t :: l => congrArg (fun x => cR t :: x) (plain_tr l)
theorem whole_eq (R : RR) : whole R = R := by unfold whole; rw [List.drop_zero, List.take_length]
section
variable {l : List TK} {e : Int} {nm : BB} {ps ss : Tag × RR} {a N : Nat} {t : TT}
theorem short_print (hA : At l a ((0, [112, 114, 105, 110, 116]) :: (tkOf t ++ [(3, [59]), (0, [115, 116, 111, 112]), (3, [125])]))) (h : okT t) (hs : t.size < 50000) (ha : a + (tkOf t).length < 900000) :
    ∃ c, ∀ n, c ≤ n → T n 59 [pE, .one (.ptr (.e 1) 0 0)] [bx sh7 (pB l a e nm ps (.im true, []) ss), bx sh15 S0] =
      some (.one (bC true), [bx sh7 (pB l (a + 1 + (tkOf t).length + 1 : Nat) e nm ps (tgs (t.rows 0)) ss), bx sh15 (2, [], [], [], [], ((t.size : Nat) - 1 : Int), (true, []), (true, []), (true, []), -1, ())]) := by
  have hp := TT.size_pos t
  have h1 := hA.tail
  have h2 := h1.left
  have h3 := h1.right
  obtain ⟨c, hr⟩ := small_tree (l := l) (e := e) (nm := nm) (ps := ps) (ss := ss) t h [] (a + 1) h2 (by simp; omega) (by omega)
  have hr := term_of hr (head_no h h2) (Dl_of h3 (.inr (.inr rfl)))
  refine ⟨c + 100, fun n hn => ?_⟩
  obtain ⟨m, rfl⟩ : ∃ m, n = m + 60 := ⟨n - 60, by omega⟩
  have hB := hA.isB
  have hr := hr (m + 59) (by omega)
  simp only [List.length_nil, Nat.zero_add, List.nil_append] at hr
  rw [eqc_]
  unfold tqc_ ttqc_
  rw [take_no' (m + 59) (by omega) _ ((hB _).trans rfl), res_bp]
  dsimp only
  rw [bif_f rfl, take_yes' (m + 59) (by omega) _ ((hB _).trans rfl) (by omega), res_bp]
  dsimp only
  rw [bif_t rfl, show ((Tag.im true, []) : Tag × RR) = tgs [] from rfl, hr, res_ip]
  dsimp only
  rw [lqc__1_e0]
  unfold wqc__1_0
  rw [need' (m + 59) (by omega) _ ((h3.isB _).trans rfl) (by omega), res_up]
theorem short_no {ts : Tag × RR} (hW : ∀ s ∈ ([[108, 101, 116], [112, 114, 105, 110, 116], [115, 97, 121], [115, 112, 97, 119, 110], [111, 112, 101, 110], [100, 114, 111, 112]] : List BB), isB l a s = false) (n : Nat) (hn : 60 ≤ n) (s : RowT sh15) :
    T n 59 [pE, .one (.ptr (.e 1) 0 0)] [bx sh7 (pB l a e nm ps ts ss), bx sh15 s] = some (.one (bC false), [bx sh7 (pB l a e nm ps ts ss), bx sh15 s]) := by
  obtain ⟨m, rfl⟩ : ∃ m, n = m + 60 := ⟨n - 60, by omega⟩
  rw [eqc_]
  unfold tqc_ ttqc_
  rw [take_no' (m + 59) (by omega) [108, 101, 116] (hW _ (by simp)), res_bp]
  dsimp only
  rw [bif_f rfl, take_no' (m + 59) (by omega) [112, 114, 105, 110, 116] (hW _ (by simp)), res_bp]
  dsimp only
  rw [bif_f rfl, take_no' (m + 59) (by omega) [115, 97, 121] (hW _ (by simp)), res_bp]
  dsimp only
  rw [bif_f rfl, take_no' (m + 59) (by omega) [115, 112, 97, 119, 110] (hW _ (by simp)), res_bp]
  dsimp only
  rw [bif_f rfl, take_no' (m + 59) (by omega) [111, 112, 101, 110] (hW _ (by simp)), res_bp]
  dsimp only
  rw [bif_f rfl, take_no' (m + 59) (by omega) [100, 114, 111, 112] (hW _ (by simp)), res_bp]
  dsimp only
  rw [bif_f rfl]
theorem last_stop {ts : Tag × RR} (h : isB l a [115, 116, 111, 112] = true) (ha : a < 950000) (n : Nat) (hn : 60 ≤ n) (z : Int) (s : RowT (sh15.tail)) :
    T n 60 [pE, .one (.ptr (.e 1) 0 0)] [bx sh7 (pB l a e nm ps ts ss), bx sh15 (z, s)] = some (.tup [], [bx sh7 (pB l (a + 1 : Nat) e nm ps ts ss), bx sh15 (0, s)]) := by
  obtain ⟨m, rfl⟩ : ∃ m, n = m + 60 := ⟨n - 60, by omega⟩
  rw [eq3_]
  unfold tq3_ ttq3_
  rw [take_yes' (m + 59) (by omega) _ h (by omega), res_bp]
  dsimp only
  rw [bif_t rfl]
theorem block_ok (hA : At l a ((0, [112, 114, 105, 110, 116]) :: (tkOf t ++ [(3, [59]), (0, [115, 116, 111, 112]), (3, [125])]))) (h : okT t) (hs : t.size < 50000) (ha : a + (tkOf t).length < 900000) :
    ∃ c, ∀ n, c ≤ n → T n 51 [pE] [bx sh7 (pB l a e nm ps (.im true, []) (.im true, []))] =
      some (.tup [], [bx sh7 (pB l (a + 1 + (tkOf t).length + 1 + 1 : Nat) e nm ps (tgs (t.rows 0)) (.own, [rowS 2 ((t.size : Nat) - 1 : Int) 1, rowS 0 (-1) (-1)]))]) := by
  obtain ⟨c, h1⟩ := short_print (e := e) (nm := nm) (ps := ps) (ss := (.own, [rowS 0 (-1) (-1)])) hA h hs ha
  refine ⟨c + 200, fun n hn => ?_⟩
  obtain ⟨m, rfl⟩ : ∃ m, n = m + 100 := ⟨n - 100, by omega⟩
  rw [eq4_]
  unfold tq4_ ttq4_
  rw [lq4__0_e0]
  unfold wq4__0_0
  rw [failed' (m + 99) (by omega), res_bp]
  dsimp only [pB, tagI]
  rw [bif_t (show (!false) = true from rfl)]
  refine (gd_t rfl).trans ?_
  rw [lq4__1_e0]
  unfold wq4__1_0
  have h1 := h1 (m + 99) (by omega)
  have h1' := h1
  unfold pB at h1
  refine (congrArg (fun o => tRes rs21 o _) h1).trans ?_
  rw [res_b2]
  dsimp only [tagI]
  rw [bif_t rfl]
  change lq4__0 (T (m + 99)) (m + 99) _ (m + 98) (.s0 (pB l (a + 1 + (tkOf t).length + 1 : Nat) e nm ps (tgs (t.rows 0)) (.own, [rowS 2 ((t.size : Nat) - 1 : Int) 1]))) = _
  have h2 := hA.tail.right
  have h3 := h2.tail
  have hB := h3.isB
  rw [lq4__0_e0]
  unfold wq4__0_0
  rw [failed' (m + 99) (by omega), res_bp]
  dsimp only [pB, tagI]
  rw [bif_t (show (!false) = true from rfl)]
  refine (gd_t rfl).trans ?_
  rw [lq4__1_e0]
  unfold wq4__1_0
  have h4 := short_no (l := l) (a := a + 1 + (tkOf t).length + 1) (e := e) (nm := nm) (ps := ps) (ss := (.own, [rowS 2 ((t.size : Nat) - 1 : Int) 1, rowS 0 (-1) (-1)])) (ts := tgs (t.rows 0))
    (fun s hs => (hB s).trans (by simp only [List.mem_cons, List.not_mem_nil, or_false] at hs; rcases hs with rfl | rfl | rfl | rfl | rfl | rfl <;> rfl)) (m + 99) (by omega) S0
  refine (congrArg (fun o => tRes rs21 o _) h4).trans ?_
  rw [res_b2]
  dsimp only
  rw [bif_f rfl]
  have h5 := last_stop (l := l) (a := a + 1 + (tkOf t).length + 1) (e := e) (nm := nm) (ps := ps) (ss := (.own, [rowS 2 ((t.size : Nat) - 1 : Int) 1, rowS 0 (-1) (-1)])) (ts := tgs (t.rows 0))
    ((hB _).trans rfl) (by omega) (m + 99) (by omega) 0 S0.2
  refine (congrArg (fun o => tRes rs22 o _) h5).trans ?_
  rw [res_u2]
  dsimp only [pB, tagI]
  rfl
theorem braced_ok (hA : At l a ((3, [123]) :: (0, [112, 114, 105, 110, 116]) :: (tkOf t ++ [(3, [59]), (0, [115, 116, 111, 112]), (3, [125])]))) (h : okT t) (hs : t.size < 50000) (ha : a + (tkOf t).length < 800000) :
    ∃ c, ∀ n, c ≤ n → T n 37 [pE] [bx sh7 (pB l a e nm ps (.im true, []) (.im true, []))] =
      some (.one (iC 0), [bx sh7 (pB l (a + 1 + 1 + (tkOf t).length + 1 + 1 + 1 : Nat) e nm ps (tgs (t.rows 0)) (.own, [rowS 2 ((t.size : Nat) - 1 : Int) 1, rowS 0 (-1) (-1)]))]) := by
  obtain ⟨c, h1⟩ := block_ok (e := e) (nm := nm) (ps := ps) hA.tail h hs (by omega)
  have h2 := hA.tail.tail.right.tail.tail
  refine ⟨c + 200, fun n hn => ?_⟩
  obtain ⟨m, rfl⟩ : ∃ m, n = m + 100 := ⟨n - 100, by omega⟩
  rw [eq1a_]
  unfold tq1a_
  rw [need' (m + 99) (by omega) _ ((hA.isB _).trans rfl) (by omega), res_up]
  dsimp only [pB, tagI]
  have h1 := h1 (m + 99) (by omega)
  refine (congrArg (fun o => tRes rs10 o _) h1).trans ?_
  rw [res_up]
  dsimp only
  rw [need' (m + 99) (by omega) _ ((h2.isB _).trans rfl) (by omega), res_up]
  rfl
theorem proc_ok (hA : At l a ((0, [109, 97, 105, 110]) :: (3, [40]) :: (3, [41]) :: (3, [123]) :: (0, [112, 114, 105, 110, 116]) :: (tkOf t ++ [(3, [59]), (0, [115, 116, 111, 112]), (3, [125])]))) (h : okT t) (hs : t.size < 50000) (ha : a + (tkOf t).length < 700000)
    {ts : Tag × RR} :
    ∃ c, ∀ n, c ≤ n → T n 16 [pE] [bx sh7 (pB l a e nm ps ts ss)] =
      some (.agg [sC [109, 97, 105, 110], lC (.im true) 3 [], lC (.im false) 6 (t.rows 0), lC (.im false) 10 [rowS 2 ((t.size : Nat) - 1 : Int) 1, rowS 0 (-1) (-1)]],
        [bx sh7 (pB l (a + 1 + 1 + 1 + 1 + 1 + (tkOf t).length + 1 + 1 + 1 : Nat) e [109, 97, 105, 110] (.im true, []) (.im false, t.rows 0) (.im false, [rowS 2 ((t.size : Nat) - 1 : Int) 1, rowS 0 (-1) (-1)]))]) := by
  obtain ⟨c, h1⟩ := braced_ok (e := e) (nm := [109, 97, 105, 110]) (ps := (.im true, [])) hA.tail.tail.tail h hs (by omega)
  have h2 := hA.tail
  have h3 := h2.tail
  refine ⟨c + 200, fun n hn => ?_⟩
  obtain ⟨m, rfl⟩ : ∃ m, n = m + 100 := ⟨n - 100, by omega⟩
  obtain ⟨tk, g1, g2, g3⟩ := hA.head
  have hm : mayB tk.s = true := by rw [g3]; kernel_rfl
  rw [eq0_]
  unfold tq0_ ttq0_
  rw [name' (m + 99) (by omega) g1 g2 hm (by omega), res_sp]
  dsimp only [pB]
  rw [show tk.s = [109, 97, 105, 110] from g3]
  have h5 := need' (l := l) (a := a + 1) (e := e) (nm := [109, 97, 105, 110]) (ps := (.im true, [])) (ts := (.im true, [])) (ss := (.im true, [])) (m + 99) (by omega) _ ((h2.isB [40]).trans rfl) (by omega)
  refine (congrArg (fun o => tRes rs10 o _) h5).trans ?_
  rw [res_up]
  dsimp only
  rw [lq0__0_e0]
  unfold wq0__0_0
  rw [failed' (m + 99) (by omega), res_bp]
  dsimp only
  rw [bif_t (show (!false) = true from rfl)]
  have h6 := is_ok (m + 96) l (a + 1 + 1) e [109, 97, 105, 110] (.im true, []) (.im true, []) (.im true, []) [41]
  refine (congrArg (fun o => tRes rs6 o _) h6).trans ?_
  have e41 : isB l (a + 1 + 1) [41] = true := (h3.isB _).trans rfl
  rw [res_bp, e41]
  dsimp only
  rw [bif_f (show (!true) = false from rfl), lq0__3_e0]
  unfold wq0__3_0
  rw [need' (m + 99) (by omega) _ ((h3.isB [41]).trans rfl) (by omega), res_up]
  dsimp only
  have h1 := h1 (m + 99) (by omega)
  rw [h1, res_ip]
  have hne : t.rows 0 ≠ [] := by
    intro h; have := congrArg List.length h; rw [TT.rows_length] at this; have := TT.size_pos t; simp at *; omega
  cases hR : t.rows 0 with
  | nil => exact absurd hR hne
  | cons r0 rr =>
  dsimp only [pB, tagI, tgs]
  have hpl : plainRs (r0 :: rr) = r0 :: rr := by rw [← hR, ← trs_rows]; exact plain_tr _
  have hw : whole (r0 :: rr) = r0 :: rr := whole_eq _
  rw [hw, hpl]
  refine (gd_t (decide_eq_true (by omega))).trans ?_
  rfl
theorem res_toks (b : Bool) (r : RR) (x y : Int) {R : Type} (K : ((Bool × RR) × Int × Int × Unit) × Unit → Option R) : tRes rs11 (some (.tup [.one (lC (.im b) 3 r), .one (iC x), .one (iC y)], [])) K = K (((b, r), x, y, ()), ()) := rfl
theorem res_proc (x : BB) (b1 b2 b3 : Bool) (r1 r2 r3 : RR) (p : RowT sh7) {R : Type} (K : RowT sh2 × RowT sh7 × Unit → Option R) :
    tRes rs9 (some (.agg [sC x, lC (.im b1) 3 r1, lC (.im b2) 6 r2, lC (.im b3) 10 r3], [bx sh7 p])) K = K ((x, (b1, r1), (b2, r2), (b3, r3), ()), p, ()) := by
  obtain ⟨⟨y1, y2⟩, y3, y4, y5, y6, ⟨t1, s1⟩, ⟨t2, s2⟩, ⟨t3, s3⟩, u⟩ := p
  cases u
  rfl
theorem program_ok (h : okT t) (hs : t.size < 50000) (ha : (tkOf t).length < 600000) {txt : BB} (hA : l.map kt = progK t) {c0 : Nat} (hT : ∀ n, c0 ≤ n → T n 11 [.one (sC txt)] [] = some (.tup [.one (lC (.im false) 3 (l.map cT)), .one (iC 0), .one (iC 0)], [])) :
    ∃ c, ∀ n, c ≤ n → T n 6 [.one (sC txt)] [] = some (.tup [.agg [lC (.im true) 3 [], lC (.im true) 2 [], lC (.im false) 4 [[.str [109, 97, 105, 110], .sl (.im true) 3 [], .sl (.im false) 6 (t.rows 0), .sl (.im false) 10 [rowS 2 ((t.size : Nat) - 1 : Int) 1, rowS 0 (-1) (-1)]]]],
      .one (iC 0), .one (iC 0)], []) := by
  have hA0 := At_map hA
  have hlen : l.length = (tkOf t).length + 9 := by
    have := congrArg List.length hA
    rw [List.length_map] at this
    rw [this]; simp [progK]
  obtain ⟨c, h1⟩ := proc_ok (e := natI txt.length) (nm := []) (ps := (.im true, [])) (ss := (.im true, [])) (ts := (.im true, [])) hA0.tail h hs (by omega)
  refine ⟨c + c0 + 200, fun n hn => ?_⟩
  obtain ⟨m, rfl⟩ : ∃ m, n = m + 100 := ⟨n - 100, by omega⟩
  rw [eqi_]
  unfold tqi_ ttqi_
  rw [hT (m + 99) (by omega), res_toks]
  have hB := hA0.isB
  dsimp only
  rw [bif_f (by decide)]
  change lqi__0 (T (m + 99)) (m + 99) (m + 99) (.s0 ((.im true, []), (.im true, []), (.im true, []), ()) (pB l (0 : Nat) (natI txt.length) [] (.im true, []) (.im true, []) (.im true, [])) ((.im true, []), (.im true, []), (.im true, []), ())) = _
  rw [lqi__0_e0]
  unfold wqi__0_0
  rw [more' (m + 99) (by omega), res_bp, decide_eq_true (show 0 < l.length by omega)]
  dsimp only
  rw [bif_t rfl, take_no' (m + 99) (by omega) _ ((hB _).trans rfl), res_bp]
  dsimp only
  rw [bif_f rfl, take_no' (m + 99) (by omega) _ ((hB _).trans rfl), res_bp]
  dsimp only
  rw [bif_f rfl, take_yes' (m + 99) (by omega) _ ((hB _).trans rfl) (by omega), res_bp]
  dsimp only [tagI]
  rw [bif_t rfl]
  have h1 := h1 (m + 99) (by omega)
  rw [h1]
  rw [res_proc]
  dsimp only
  refine (gd_t rfl).trans ?_
  rw [lqi__0_e0]
  unfold wqi__0_0
  rw [more' (m + 99) (by omega), res_bp, decide_eq_false (show ¬ (0 + 1 + 1 + 1 + 1 + 1 + 1 + (tkOf t).length + 1 + 1 + 1 < l.length) by omega)]
  dsimp only
  rw [cond_false, failed' (m + 99) (by omega), res_bp]
  dsimp only [tagI]
  rw [cond_false]
  refine (gd_t rfl).trans ?_
  refine (gd_t rfl).trans ?_
  rfl
end
end
section
open Go Go.Abs PT
theorem first_ok (m : Nat) : T (m + 200) 4 [] [] = some (.one (bC true), []) := by kernel_rfl
theorem qc_len (c : UInt8) : (qc c).length ≤ 4 := by
  unfold qc
  repeat' split
  all_goals simp
theorem flat_len : ∀ s : BB, (s.flatMap qc).length ≤ 4 * s.length
  | [] => by simp
  | c :: s => by
    have := qc_len c
    have := flat_len s
    rw [List.flatMap_cons, List.length_append, List.length_cons]; omega
theorem txt_len : ∀ t : TT, okT t → (txtOf t).length ≤ 100 * t.size
  | .lf k nm n tx, h => by
    simp only [PT.TT.size]
    rcases h with ⟨rfl, h, rfl, rfl⟩ | ⟨rfl, rfl, rfl, h, h'⟩ | ⟨rfl, rfl, rfl, h⟩ | ⟨rfl, rfl, rfl, h⟩ | ⟨rfl, rfl, rfl, rfl⟩ | ⟨rfl, rfl, rfl, rfl⟩
    · show nm.length ≤ 100 * 1
      cases nm with
      | nil => simp
      | cons c r =>
        have h : (decide (r.length + 1 ≤ 12) && isLet c && !(kwB (c :: r)) && r.all isLD) = true := h
        simp only [Bool.and_eq_true, decide_eq_true_eq] at h
        simp; omega
    · have := itoa_len h h'
      show (itoaK n).length ≤ 100 * 1
      omega
    · rcases h with rfl | rfl <;> simp [txtOf]
    · show (quotedB tx).length ≤ 100 * 1
      have := flat_len tx
      unfold quotedB
      rw [List.length_cons, List.length_append, List.length_singleton]; omega
    · simp [txtOf]
    · simp [txtOf]
  | .un k a, h => by
    have := txt_len a h.2
    have := cll_len k
    simp only [txtOf, PT.TT.size]
    split <;> simp <;> omega
  | .bi k a b, h => by
    have := txt_len a h.2.1
    have := txt_len b h.2.2
    have := cll_len k
    have := sgn_len k
    simp only [txtOf, PT.TT.size]
    split <;> simp <;> omega
theorem tk_len : ∀ t : TT, (tkOf t).length ≤ 10 * t.size
  | .lf k nm n tx => by
    simp only [tkOf, PT.TT.size]
    repeat' split
    all_goals simp
  | .un k a => by
    have := tk_len a
    simp only [tkOf, PT.TT.size]
    split <;> simp <;> omega
  | .bi k a b => by
    have := tk_len a
    have := tk_len b
    simp only [tkOf, PT.TT.size]
    split <;> simp <;> omega
theorem res_prog (b1 b2 b3 : Bool) (r1 r2 r3 : RR) (x y : Int) {R : Type} (K : (RowT sh1 × Int × Int × Unit) × Unit → Option R) :
    tRes rs1 (some (.tup [.agg [lC (.im b1) 3 r1, lC (.im b2) 2 r2, lC (.im b3) 4 r3], .one (iC x), .one (iC y)], [])) K = K (((( b1, r1), (b2, r2), (b3, r3), ()), x, y, ()), ()) := rfl
theorem rA_p (nm : BB) (a b c : Bool) (r1 r2 r3 : RR) {R : Type} (K : RowT [.im 10] → Option R) : rA [.im 10] 3 1 [[.str nm, .sl (.im a) 3 r1, .sl (.im b) 6 r2, .sl (.im c) 10 r3]] (Int.toNat (0 : Int)) K = K ((c, r3), ()) := rfl
theorem rA_t (k tm nx : Int) (r : RR) {R : Type} (K : RowT sh3 → Option R) : rA sh3 5 1 (rowS k tm nx :: r) (Int.toNat (0 : Int)) K = K (tm, ()) := rfl
theorem tRow_p (nm : BB) (a b c : Bool) (r1 r2 r3 : RR) {R : Type} (K : RowT sh2 → Option R) : tRow sh2 (List.take 4 [.str nm, .sl (.im a) 3 r1, .sl (.im b) 6 r2, .sl (.im c) 10 r3]) K = K (nm, (a, r1), (b, r2), (c, r3), ()) := rfl
theorem law (x0 : Bool) (l : List TR) (root : Int) (hr : ∀ t ∈ l, inR t) : ∃ N, T N 3 [.one (lC (.im x0) 6 (l.map cR)), .one (iC root)] [] = some (.one (bC true), []) := by
  by_cases h1 : l.length > 100
  · refine ⟨300, ?_⟩
    rw [show (300 : Nat) = 299 + 1 from rfl, eq8_]
    unfold tq8_ ttq8_
    rw [show (299 : Nat) = 99 + 200 from rfl, first_ok 99, res_b]
    dsimp only
    rw [bif_f (show (!true) = false from rfl), List.length_map, natI_eq, bif_t (decide_eq_true (by omega))]
  · by_cases h2 : mayT l root = true
    · obtain ⟨t, ok, hat, hd, hs⟩ := may_tree hr h2
      have hp := TT.size_pos t
      have hl := txt_len t ok
      have hk := tk_len t
      have hM : ∀ n, 100 ≤ n → T n 5 [.one (lC (.im x0) 6 (l.map cR)), .one (iC root)] [] = some (.one (bC true), []) := fun n hn => by rw [mayT_ok root n hn, h2]
      obtain ⟨c7, h7⟩ := term_txt x0 (l.map cR) ok hat (by omega) hM
      have hmr : mayT (TT.trs t 0) ((t.size : Nat) - 1 : Int) = true := may_rows ok hd (by omega)
      have hM2 : ∀ n, 100 ≤ n → T n 5 [.one (lC (.im false) 6 (t.rows 0)), .one (iC ((t.size : Nat) - 1 : Int))] [] = some (.one (bC true), []) := fun n hn => by
        rw [← trs_rows, mayT_ok _ n hn, hmr]
      have hat2 : t.at_ (t.rows 0) ((t.size : Nat) - 1 : Int) := by
        have := TT.at_rows t [] []
        simpa using this
      obtain ⟨c72, h72⟩ := term_txt false (t.rows 0) ok hat2 (by omega) hM2
      obtain ⟨tl, c11, hA, h11⟩ := tokens_ok ok (by omega)
      obtain ⟨c6, h6⟩ := program_ok ok (by omega) (by omega) hA h11
      refine ⟨c7 + c72 + c6 + 300 + 1, ?_⟩
      generalize hn : c7 + c72 + c6 + 300 = n
      rw [eq8_]
      unfold tq8_ ttq8_
      have hf : T n 4 [] [] = some (.one (bC true), []) := by
        obtain ⟨m, rfl⟩ : ∃ m, n = m + 200 := ⟨n - 200, by omega⟩
        exact first_ok m
      rw [hf, res_b]
      dsimp only
      rw [bif_f (show (!true) = false from rfl), List.length_map, natI_eq, bif_f (decide_eq_false (by omega)), hM n (by omega), res_b]
      dsimp only
      rw [bif_f (show (!true) = false from rfl)]
      obtain ⟨m, rfl⟩ : ∃ m, n = m + 1 := ⟨n - 1, by omega⟩
      rw [lq8__1_e0]
      unfold wq8__1_0
      rw [h7 (m + 1) (by omega), res_s]
      dsimp only
      refine (g63_t (by omega)).trans ?_
      refine (g63_t (by simp; omega)).trans ?_
      have h6 := h6 (m + 1) (by omega)
      refine (congrArg (fun o => tRes rs1 o _) h6).trans ?_
      rw [res_prog]
      dsimp only
      rw [bif_f (by decide)]
      refine (bif_f rfl).trans ?_
      rw [rA_p]
      dsimp only
      refine (bif_f rfl).trans ?_
      rw [lq8__0_e0]
      unfold wq8__0_0
      dsimp only [tagI]
      refine (qO (b := [D.str [109, 97, 105, 110], D.sl (.im true) 3 [], D.sl (.im false) 6 (t.rows 0), D.sl (.im false) 10 [rowS 2 ((t.size : Nat) - 1 : Int) 1, rowS 0 (-1) (-1)]]) _ rfl).trans ?_
      refine (gd_t rfl).trans ?_
      rw [tRow_p]
      dsimp only
      rw [rA_t]
      dsimp only
      rw [hM2 (m + 1) (by omega), res_b]
      dsimp only
      rw [cond_true, h72 (m + 1) (by omega), res_s]
      dsimp only
      rw [h7 (m + 1) (by omega), res_s]
      dsimp only
      rw [bif_t (beq_self_eq_true _)]
      have hlen : natI (t.rows 0).length = ((t.size - 1 + 1 : Nat) : Int) := by rw [TT.rows_length, natI_eq]; omega
      rw [hlen, w64_len _ (by omega)]
      have e : (((t.size : Nat) - 1 : Int) == ((t.size - 1 : Nat) : Int)) = true := by rw [show ((t.size : Nat) - 1 : Int) = ((t.size - 1 : Nat) : Int) by omega]; exact beq_self_eq_true _
      rw [e]
    · refine ⟨300, ?_⟩
      rw [show (300 : Nat) = 299 + 1 from rfl, eq8_]
      unfold tq8_ ttq8_
      rw [show (299 : Nat) = 99 + 200 from rfl, first_ok 99, res_b]
      dsimp only
      rw [bif_f (show (!true) = false from rfl), List.length_map, natI_eq, bif_f (decide_eq_false (by omega)), mayT_ok root _ (by omega), res_b]
      dsimp only
      rw [show mayT l root = false by simpa using h2]
      rfl
end
end Go.Proofs.YteaaelhndaijoaaDoor
