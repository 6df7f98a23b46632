/- What the functions that the law reaches answer, in plain data. -/
import Derived.Test.YtamcbchinhdniaaGreatDoorPlain0
set_option maxRecDepth 100000
set_option linter.unusedVariables false
set_option linter.unusedSimpArgs false
namespace Go.Proofs.YtamcbchinhdniaaGreatDoor
section
open Go Go.Abs
theorem mput_get : ∀ (l : List BB) (x : BB), mgetB (l.map fun s => [.str s, .bool true]) x = l.contains x
  | [], x => rfl
  | s :: l, x => by
    have ih := mput_get l x
    rw [List.contains_cons, ← ih]
    show (bif x == s then true else mgetB (l.map fun s => [.str s, .bool true]) x) = _
    cases x == s <;> rfl
theorem mput_new : ∀ (l : List BB) (x : BB), x ∉ l → mputB (l.map fun s => [.str s, .bool true]) x true = (l ++ [x]).map fun s => [.str s, .bool true]
  | [], x, h => rfl
  | s :: l, x, h => by
    rw [List.mem_cons, not_or] at h
    have ih := mput_new l x h.2
    show (bif x == s then _ else [.str s, .bool true] :: mputB (l.map fun s => [.str s, .bool true]) x true) = _
    rw [show (x == s) = false from beq_eq_false_iff_ne.2 h.1, ih]
    rfl
theorem get_cM {l : List AM} {i : Nat} {a : AM} (h : l[i]? = some a) : (l.map cM)[i]? = some (cM a) := by rw [List.getElem?_map, h]; rfl
theorem arms_may_loop (m q : Nat) (hm : 60 ≤ m) (b : Bool) (P : Nat) (l : List AM) (hok : okMs P l) : ∀ (k i : Nat), l.length - i < k → i ≤ l.length →
    lqj__0_0 (T m) q k (P : Int) (((l.take i).map AM.lab).map fun s => [.str s, .bool true]) b (l.map cM) (natI (l.map cM).length) (i : Int) = some (.one (bC true), [])
  | 0, i, h, _ => by omega
  | k + 1, i, h, hi => by
    obtain ⟨o1, o2, o3, o4⟩ := hok
    rw [lqj__0_0e]
    by_cases hlt : i < l.length
    · have hg : l[i]? = some l[i] := List.getElem?_eq_getElem hlt
      obtain ⟨p1, p2, p3⟩ := o4 l[i] (List.getElem_mem hlt)
      have htake : l.take (i + 1) = l.take i ++ [l[i]] := by rw [List.take_add_one, hg]; rfl
      have hnot : l[i].lab ∉ (l.take i).map AM.lab := by
        have h1 : ((l.take (i + 1)).map AM.lab).Nodup := by
          rw [List.map_take]
          exact o3.sublist (List.take_sublist _ _)
        rw [htake, List.map_append, List.nodup_append] at h1
        intro hm2
        exact h1.2.2 _ hm2 _ (by simp) rfl
      refine bif_t (decide_eq_true (by rw [natI_eq', List.length_map]; omega)) (iR_of (v := (l[i].lab, l[i].kd, l[i].nm, (l[i].nx : Int), ())) rfl (get_cM hg) (by simp [cM]) rfl ?_)
      dsimp only
      refine tr_b (may_ok m (by omega) (lab_nm p1)) (bif_f rfl (bif_f ?_ (tr_b (tcar_ok m hm p2) (bif_f rfl (bif_f (show decide ((l[i].nx : Int) < 0) = false from decide_eq_false (by omega)) (bif_f (show decide ((l[i].nx : Int) ≥ (P : Int)) = false from decide_eq_false (by omega)) ?_))))))
      · rw [mput_get, List.contains_eq_mem]; exact decide_eq_false hnot
      · rw [mput_new _ _ hnot, show w64 ((i : Int) + 1) = ((i + 1 : Nat) : Int) from w64_n (by omega) (by omega)]
        have ih := arms_may_loop m q hm b P l ⟨o1, o2, o3, o4⟩ k (i + 1) (by omega) (by omega)
        rw [htake, List.map_append] at ih
        exact ih
    · exact bif_f (decide_eq_false (by rw [natI_eq', List.length_map]; omega)) rfl
theorem arms_may (n : Nat) (hn : 70 ≤ n) (b : Bool) {P : Nat} {l : List AM} (hok : okMs P l) : T n 24 [.one (lC (.im b) 4 (l.map cM)), .one (iC (P : Int))] [] = some (.one (bC true), []) := by
  obtain ⟨m, rfl⟩ : ∃ m, n = m + 2 := ⟨n - 2, by omega⟩
  refine eqj_ (bif_f (decide_eq_false ?_) (bif_f (decide_eq_false ?_) ?_))
  · rw [natI_eq', List.length_map]; have := hok.1; omega
  · rw [natI_eq', List.length_map]; have := hok.2.1; omega
  · rw [lqj__1_0e]
    exact arms_may_loop (m + 1) (m + 1) (by omega) b P l hok (m + 1) 0 (by have := hok.2.1; omega) (by omega)
theorem get_cN {l : List TN} {i : Nat} {a : TN} (h : l[i]? = some a) : (l.map cN)[i]? = some (cN a) := by rw [List.getElem?_map, h]; rfl
def okN' (P : Nat) (p : TN) : Prop := (p.kd = 0 ∧ p.pr = [] ∧ p.ms = []) ∨ ((p.kd = 1 ∨ p.kd = 2) ∧ p.pr ∈ nms ∧ okMs P p.ms)
theorem may_loop (m q : Nat) (hm : 80 ≤ m) (b : Bool) (a0 : RowT sh2) (P : Nat) (hP : natI a0.2.1.2.length = (P : Int)) (l : List TN) (hl : l.length ≤ 40) (hok : ∀ p ∈ l, okN' P p) : ∀ (k i : Nat), l.length - i < k → i ≤ l.length →
    lqb__0_0 (T m) (q + 1) k a0 b (l.map cN) (natI (l.map cN).length) (i : Int) = some (.one (bC true), [])
  | 0, i, h, _ => by omega
  | k + 1, i, h, hi => by
    rw [lqb__0_0e]
    by_cases hlt : i < l.length
    · have hg : l[i]? = some l[i] := List.getElem?_eq_getElem hlt
      have ih := may_loop m q hm b a0 P hP l hl hok k (i + 1) (by omega) (by omega)
      refine bif_t (decide_eq_true (by rw [natI_eq', List.length_map]; omega)) (iR_of (v := (l[i].kd, l[i].pr, (l[i].t, l[i].ms.map cM), ())) rfl (get_cN hg) (by simp [cN]) (by simp [cN, decRow, decD]) ?_)
      dsimp only
      have fin : lqb__1_0 (T m) (q + 1) k (q + 1) a0 b (l.map cN) (natI (l.map cN).length) (i : Int) (l[i].kd, l[i].pr, (l[i].t, l[i].ms.map cM), ()) = some (.one (bC true), []) := by
        rw [lqb__1_0e, show w64 ((i : Int) + 1) = ((i + 1 : Nat) : Int) from w64_n (by omega) (by omega)]
        exact ih
      rcases hok l[i] (List.getElem_mem hlt) with ⟨p1, p2, p3⟩ | ⟨p1, p2, p3⟩
      · refine bif_t (by rw [p1]; rfl) (bif_f (by rw [p2]; rfl) (bif_f (by rw [p3]; rfl) fin))
      · rw [hP]
        rcases p1 with p1 | p1
        · refine bif_f (by rw [p1]; rfl) (bif_t (by rw [p1]; rfl) (tr_b (may_ok m (by omega) p2) (bif_f rfl (tr_b (arms_may m (by omega) _ p3) (bif_f rfl fin)))))
        · refine bif_f (by rw [p1]; rfl) (bif_f (by rw [p1]; rfl) (bif_t (by rw [p1]; rfl) (tr_b (may_ok m (by omega) p2) (bif_f rfl (tr_b (arms_may m (by omega) _ p3) (bif_f rfl fin))))))
    · exact bif_f (decide_eq_false (by rw [natI_eq', List.length_map]; omega)) rfl
theorem tmay (n : Nat) (hn : 90 ≤ n) (b : Bool) (nm : BB) {l : List TN} (h1 : 1 ≤ l.length) (hl : l.length ≤ 40) (hok : ∀ p ∈ l, okN' l.length p) : T n 9 [.agg [sC nm, lC (.im b) 3 (l.map cN)]] [] = some (.one (bC true), []) := by
  obtain ⟨m, rfl⟩ : ∃ m, n = m + 2 := ⟨n - 2, by omega⟩
  refine eqb_ (bif_f (decide_eq_false ?_) (bif_f (decide_eq_false ?_) ?_))
  · rw [natI_eq', List.length_map]; omega
  · rw [natI_eq', List.length_map]; omega
  · rw [lqb__2_0e]
    exact may_loop (m + 1) m (by omega) b _ l.length (by rw [natI_eq', List.length_map]) l hl hok (m + 1) 0 (by omega) (by omega)
theorem okN_of {P : Nat} {p : TN} (h : okN P p) : okN' P p := by
  rcases h with h | ⟨h1, ⟨k, h2, h3⟩, h4⟩
  · exact .inl h
  · exact .inr ⟨h1, h3 ▸ role_nm (by omega), h4⟩
def gN (p : PT) : TN := if p.ms = [] then ⟨0, [], p.t, []⟩ else ⟨1, p.to, p.t, p.ms⟩
theorem get_cP {l : List PT} {i : Nat} {a : PT} (h : l[i]? = some a) : (l.map cP)[i]? = some (cP a) := by rw [List.getElem?_map, h]; rfl
theorem graph_loop (m q : Nat) (b : Bool) (z : RowT sh5) {P many : Nat} (l : List PT) (hl : l.length ≤ 24) (hok : ∀ p ∈ l, okP P many p) : ∀ (k i : Nat), l.length - i < k → i ≤ l.length → 1 ≤ l.length →
    lqc__0_0 (T m) (q + 1) k z ([], tgs (((l.take i).map gN).map cN), ()) b (l.map cP) (natI (l.map cP).length) (i : Int) = some (.agg [sC [], lC (.im false) 3 ((l.map gN).map cN)], [])
  | 0, i, h, _, _ => by omega
  | k + 1, i, h, hi, h1 => by
    rw [lqc__0_0e]
    by_cases hlt : i < l.length
    · have hg : l[i]? = some l[i] := List.getElem?_eq_getElem hlt
      have htake : l.take (i + 1) = l.take i ++ [l[i]] := by rw [List.take_add_one, hg]; rfl
      have ih := graph_loop m q b z l hl hok k (i + 1) (by omega) (by omega) h1
      rw [htake, List.map_append, List.map_append, show List.map cN (List.map gN [l[i]]) = [cN (gN l[i])] from rfl, tgs_app] at ih
      refine bif_t (decide_eq_true (by rw [natI_eq', List.length_map]; omega)) (iR_of (v := (l[i].fr, l[i].to, (l[i].t, l[i].ms.map cM), ())) rfl (get_cP hg) (by simp [cP]) (by simp [cP, decRow, decD]) ?_)
      dsimp only
      have hw : w64 ((i : Int) + 1) = ((i + 1 : Nat) : Int) := w64_n (by omega) (by omega)
      have fin : ∀ (x : RowT sh15) (kd : Int) (pr : BB), cN (gN l[i]) = [.int .i64 kd, .str pr, .sl (.im l[i].t) 4 (l[i].ms.map cM)] →
          lqc__1_0 (T m) (q + 1) k (q + 1) z ([], tgs (((l.take i).map gN).map cN), ()) b (l.map cP) (natI (l.map cP).length) (i : Int) x (kd, pr, ((.im l[i].t), l[i].ms.map cM), ()) = some (.agg [sC [], lC (.im false) 3 ((l.map gN).map cN)], []) := by
        intro x kd pr hc
        rw [lqc__1_0e, hw]
        have hlen : (((l.take i).map gN).map cN).length = i := by simp; omega
        rw [hc] at ih
        generalize ((l.take i).map gN).map cN = R at ih hlen ⊢
        cases R with
        | nil => exact tg_im (tg_im (gd_t rfl ih))
        | cons r R => exact tg_own (tg_im (gd_t (room (by simp only [tgs]; omega) (by omega)) ih))
      rcases hok l[i] (List.getElem_mem hlt) with ⟨p1, p2, p3⟩ | ⟨k1, k2, _, _, _, p1, p2, p3⟩
      · refine bif_f (by rw [p1]; rfl) (bif_f (by rw [p2]; rfl) (bif_f (by rw [p3]; rfl) (fin _ _ _ ?_)))
        simp [gN, cN, p3]
      · refine bif_t (by rw [p1]; rfl) (fin _ _ _ ?_)
        have : l[i].ms ≠ [] := by
          intro e
          have := p3.1
          rw [e] at this; simp at this
        simp [gN, cN, this]
    · obtain rfl : i = l.length := by omega
      refine bif_f (decide_eq_false (by rw [natI_eq', List.length_map]; omega)) ?_
      rw [List.take_length]
      cases l with
      | nil => simp at h1
      | cons p l =>
        refine tg_own (gd_t (g1 (by simp [tgs])) (gd_t (g2 _) ?_))
        simp only [whole_eq, tgs]
        rw [plainNs]
theorem graph_ok (n : Nat) (hn : 40 ≤ n) (b b2 : Bool) (nm : BB) (rs : RR) {P many : Nat} {l : List PT} (h1 : 1 ≤ l.length) (hl : l.length ≤ 24) (hok : ∀ p ∈ l, okP P many p) :
    T n 23 [.agg [sC nm, lC (.im b2) 1 rs, lC (.im b) 3 (l.map cP)]] [] = some (.agg [sC [], lC (.im false) 3 ((l.map gN).map cN)], []) := by
  obtain ⟨m, rfl⟩ : ∃ m, n = m + 2 := ⟨n - 2, by omega⟩
  exact eqc_ (graph_loop (m + 1) m b _ l hl hok (m + 1) 0 (by omega) (by omega) h1)
theorem pts_loop (m q : Nat) (hm : 100 ≤ m) (bn : Bool) {b2 b : Bool} {many : Nat} {l : List PT} (h : okPr many l) : ∀ (k i : Nat), l.length - i < k → i ≤ l.length →
    lq5__0_0 (T m) (q + 1) k ([112], (b2, rolesR many), (b, l.map cP), ()) b (l.map cP) (natI (l.map cP).length) (i : Int) = some (.one (bC true), [])
  | 0, i, h, _ => by omega
  | k + 1, i, hk, hi => by
    obtain ⟨o1, o2, o3, o4, o5⟩ := h
    rw [lq5__0_0e]
    by_cases hlt : i < l.length
    · have hg : l[i]? = some l[i] := List.getElem?_eq_getElem hlt
      have ih := pts_loop m q hm bn (b2 := b2) (b := b) ⟨o1, o2, o3, o4, o5⟩ k (i + 1) (by omega) (by omega)
      have hw : w64 ((i : Int) + 1) = ((i + 1 : Nat) : Int) := w64_n (by omega) (by omega)
      refine bif_t (decide_eq_true (by rw [natI_eq', List.length_map]; omega)) (iR_of (v := (l[i].fr, l[i].to, (l[i].t, l[i].ms.map cM), ())) rfl (get_cP hg) (by simp [cP]) (by simp [cP, decRow, decD]) ?_)
      dsimp only
      rw [hw]
      rcases o5 l[i] (List.getElem_mem hlt) with ⟨p1, p2, p3⟩ | ⟨k1, k2, q1, q2, q3, p1, p2, p3⟩
      · exact bif_t (by rw [p1]; rfl) (bif_t (by rw [p2]; rfl) (bif_t (by rw [p3]; rfl) ih))
      · refine bif_f (by rw [p1]; rfl) ?_
        rw [lq5__1_0e, hw]
        dsimp only
        rw [p1, p2]
        refine tr_b (has_ok m (by omega) b2 o2 q1) (bif_f rfl (tr_b (has_ok m (by omega) b2 o2 q2) (bif_f rfl (bif_f ?_ ih))))
        rw [beq_eq_false_iff_ne]
        intro e
        have h1 : k1 < 4 := by omega
        have h2 : k2 < 4 := by omega
        unfold roleAt at e
        match k1, h1, k2, h2 with
        | 0, _, 0, _ => exact q3 rfl
        | 1, _, 1, _ => exact q3 rfl
        | 2, _, 2, _ => exact q3 rfl
        | 3, _, 3, _ => exact q3 rfl
        | 0, _, 1, _ => cases e
        | 0, _, 2, _ => cases e
        | 0, _, 3, _ => cases e
        | 1, _, 0, _ => cases e
        | 1, _, 2, _ => cases e
        | 1, _, 3, _ => cases e
        | 2, _, 0, _ => cases e
        | 2, _, 1, _ => cases e
        | 2, _, 3, _ => cases e
        | 3, _, 0, _ => cases e
        | 3, _, 1, _ => cases e
        | 3, _, 2, _ => cases e
    · refine bif_f (decide_eq_false (by rw [natI_eq', List.length_map]; omega)) ?_
      refine tr_v0 (v := ([], (false, (l.map gN).map cN), ())) (graph_ok m (by omega) b b2 [112] (rolesR many) o3 (by omega) o5) (by rfl) ?_
      refine tr_b (tmay m (by omega) false [] (l := l.map gN) (by simpa using o3) (by simp; omega) ?_) rfl
      intro p hp
      rw [List.mem_map] at hp
      obtain ⟨x, hx, rfl⟩ := hp
      rw [List.length_map]
      rcases o5 x hx with ⟨p1, p2, p3⟩ | ⟨k1, k2, q1, q2, q3, p1, p2, p3⟩
      · refine .inl ?_
        simp [gN, p3]
      · have : x.ms ≠ [] := by
          intro e
          have := p3.1
          rw [e] at this; simp at this
        refine .inr ?_
        simp only [gN, this, if_false]
        exact ⟨by simp, p2 ▸ role_nm (by omega), p3⟩
theorem roles_loop (m q : Nat) (hm : 100 ≤ m) {b2 b : Bool} {many : Nat} {l : List PT} (h : okPr many l) (hq : 60 ≤ q) : ∀ (k i : Nat), many - i < k → i ≤ many →
    lq5__2_0 (T m) (q + 1) k ([112], (b2, rolesR many), (b, l.map cP), ()) b2 (rolesR many) (natI (rolesR many).length) (i : Int) = some (.one (bC true), [])
  | 0, i, h, _ => by omega
  | k + 1, i, hk, hi => by
    have hlen := rolesR_len many
    have h4 := h.2.1
    rw [lq5__2_0e]
    by_cases hlt : i < many
    · have ih := roles_loop m q hm (b2 := b2) (b := b) h hq k (i + 1) (by omega) (by omega)
      refine bif_t (decide_eq_true (by rw [natI_eq', hlen]; omega)) (iR_of (v := (roleAt i, ())) rfl (rolesR_get hlt) (by simp) rfl ?_)
      dsimp only
      refine tr_b (may_ok m (by omega) (role_nm (by omega))) (bif_f rfl ?_)
      rw [show w64 ((i : Int) + 1) = ((i + 1 : Nat) : Int) from w64_n (by omega) (by omega)]
      exact ih
    · refine bif_f (decide_eq_false (by rw [natI_eq', hlen]; omega)) ?_
      exact pts_loop m q hm true h (q + 1) 0 (by have := h.2.2.2.1; omega) (by omega)
theorem gmay (n : Nat) (hn : 120 ≤ n) (b2 b : Bool) {many : Nat} {l : List PT} (h : okPr many l) : T n 8 [.agg [sC [112], lC (.im b2) 1 (rolesR many), lC (.im b) 3 (l.map cP)]] [] = some (.one (bC true), []) := by
  obtain ⟨m, rfl⟩ : ∃ m, n = m + 2 := ⟨n - 2, by omega⟩
  have hlen := rolesR_len many
  have h2 := h.1
  have h4 := h.2.1
  have h8 := h.2.2.2.1
  refine eq5_ (tr_b (may_ok (m + 1) (by omega) (by decide)) (bif_f rfl (bif_f (decide_eq_false ?_) (bif_f (decide_eq_false ?_) (tr_b (once_ok (m + 1) (by omega) b2 h2 h4) (bif_f rfl (bif_f (decide_eq_false ?_) ?_)))))))
  · rw [natI_eq', hlen]; omega
  · rw [natI_eq', hlen]; omega
  · rw [natI_eq', List.length_map]; omega
  · rw [lq5__3_0e]
    exact roles_loop (m + 1) m (by omega) h (by omega) (m + 1) 0 (by omega) (by omega)
end
section
open Go Go.Abs
theorem strB_app (a b : BB) : D.strB (a ++ b) = D.strB a ++ D.strB b := by unfold D.strB; exact List.map_append
theorem strB_len (a : BB) : (D.strB a).length = a.length := by unfold D.strB; exact List.length_map _
theorem toBytes_strB : ∀ b : BB, toBytes (D.strB b) = some b
  | [] => rfl
  | c :: r => by
    show (toBytes (D.strB r)).map (UInt8.ofNat ((c.toNat : Int).toNat) :: ·) = some (c :: r)
    rw [toBytes_strB r]
    show some (UInt8.ofNat c.toNat :: r) = _
    rw [UInt8.ofNat_toNat]
theorem u8ok1 (x : RR) (b : Bool) : u8ok 1 x b = true := by
  show (noU8 x || true) = true
  exact Bool.or_true _
abbrev B0 : RowT sh8 := ((), (.im true, []), ())
abbrev BW (t : BB) : RowT sh8 := ((), (.own, D.strB t), ())
section
variable {m : Nat} {s t : BB} {z : OR}
theorem ccopy {x : RowT sh8} (hm : 1 ≤ m) {K : Unit × RowT sh8 × Unit → OR} (h : K ((), x, ()) = z) : c64 (T m) x K = z := by
  obtain ⟨m, rfl⟩ : ∃ n, m = n + 1 := ⟨m - 1, by omega⟩
  obtain ⟨⟨⟩, ⟨tg, r⟩, ⟨⟩⟩ := x
  have e : T (m + 1) 64 [pE] [bx sh8 ((), (tg, r), ())] = some (.tup [], [bx sh8 ((), (tg, r), ())]) := by kernel_rfl
  exact tr_up e h
theorem tr_err1 {o : OR} {i : Int} {ds : List DS} {p : RowT ds} {K : (Int × Bool × Unit) × RowT ds × Unit → OR} {y : OR} (h : o = some (.tup [.one (iC i), .one .nili], [bx ds p])) (h2 : K ((i, true, ()), p, ()) = y) : tRes (.tup [.one (.int .i64), .ifc] [ds]) o K = y := by
  subst h
  simp only [tRes, decR, decBs1]
  exact h2
theorem cws0 (hm : 2 ≤ m) (hs : s ≠ []) (hl : s.length ≤ 1000000) {K : (Int × Bool × Unit) × RowT sh8 × Unit → OR} (h : ∀ n : Int, K ((n, true, ()), BW s, ()) = z) : c33 (T m) s B0 K = z := by
  obtain ⟨m, rfl⟩ : ∃ n, m = n + 1 := ⟨m - 1, by omega⟩
  refine tr_err1 (i := natI s.length) (eq13_ (ccopy (by omega) (tg_im (gd_t ?_ (bif_f ?_ rfl))))) (h _)
  · rw [u8ok1, strB_len]
    simp; omega
  · cases s with
    | nil => exact absurd rfl hs
    | cons => rfl
theorem cws (hm : 2 ≤ m) (hl : t.length + s.length ≤ 1000000) {K : (Int × Bool × Unit) × RowT sh8 × Unit → OR} (h : ∀ n : Int, K ((n, true, ()), BW (t ++ s), ()) = z) : c33 (T m) s (BW t) K = z := by
  obtain ⟨m, rfl⟩ : ∃ n, m = n + 1 := ⟨m - 1, by omega⟩
  refine tr_err1 (i := natI s.length) (eq13_ (ccopy (by omega) (tg_own (gd_t ?_ ?_)))) (h _)
  · dsimp only
    rw [u8ok1, strB_len, strB_len]
    simp; omega
  · exact congrArg (fun x : RR => (some (V.tup [.one (iC (natI s.length)), .one .nili], [bx sh8 ((), (Tag.own, x), ())]) : OR)) (strB_app t s).symm
theorem cstr (hm : 2 ≤ m) (ht : t ≠ []) (hl : t.length ≤ 1000000) {K : BB × RowT sh9 × Unit → OR} (h : K (t, ((), (), ()), ()) = z) : c36 (T m) (BW t) K = z := by
  obtain ⟨m, rfl⟩ : ∃ n, m = n + 1 := ⟨m - 1, by omega⟩
  have h0 : ((D.strB t).length == 0) = false := by
    rw [strB_len]
    cases t with
    | nil => exact absurd rfl ht
    | cons => rfl
  refine tr_sp (eq18_ (tg_own (gd_t ?_ (gd_t ?_ (qo (toBytes_strB t) rfl))))) h
  · dsimp only; rw [h0]; rfl
  · dsimp only; rw [h0, strB_len]; simp; omega
theorem cgrow (hm : 1 ≤ m) {n : Nat} (h1 : 1 ≤ n) (h2 : n ≤ 1000000) {K : Unit × RowT sh8 × Unit → OR} (h : K ((), BW [], ()) = z) : c67 (T m) (n : Int) B0 K = z := by
  obtain ⟨m, rfl⟩ : ∃ n, m = n + 1 := ⟨m - 1, by omega⟩
  have hd : decide ((1 : Int) ≤ (n : Int) ∧ (n : Int) ≤ 140737488355328) = true := decide_eq_true ⟨by omega, by omega⟩
  have e : T (m + 1) 67 [pE, .one (iC (n : Int))] [bx sh8 B0] = (match Nat.beq 89 89, decide ((1 : Int) ≤ (n : Int) ∧ (n : Int) ≤ 140737488355328) with
      | true, true => some (.tup [], [bx sh8 (BW [])])
      | _, _ => none) := by kernel_rfl
  rw [hd] at e
  exact tr_up e h
def joinTl (l : List BB) : BB := l.flatMap fun y => [44, 32] ++ y
def joinS : List BB → BB
  | [] => []
  | x :: t => x ++ joinTl t
abbrev strs (l : List BB) : RR := l.map fun s => [.str s]
theorem strs_get {l : List BB} {i : Nat} (h : i < l.length) : (strs l)[i]? = some [.str l[i]] := by
  rw [List.getElem?_map, List.getElem?_eq_getElem h]; rfl
theorem joinTl_len : ∀ l : List BB, (∀ y ∈ l, y.length ≤ 100) → (joinTl l).length ≤ 102 * l.length
  | [], _ => by simp [joinTl]
  | y :: l, h => by
    have h1 := h y (List.mem_cons_self ..)
    have h2 := joinTl_len l fun y hy => h y (List.mem_cons_of_mem _ hy)
    simp only [joinTl, List.flatMap_cons, List.length_append, List.length_cons, List.length_nil] at h2 ⊢
    omega
theorem joinTl_take {l : List BB} {i : Nat} (h : i < l.length) : joinTl (l.take (i + 1)) = joinTl (l.take i) ++ [44, 32] ++ l[i] := by
  unfold joinTl
  rw [List.take_add_one, List.getElem?_eq_getElem h, List.flatMap_append, show List.flatMap (fun y => [44, 32] ++ y) (some l[i]).toList = [44, 32] ++ l[i] by simp, ← List.append_assoc]
theorem join_loop (q : Nat) (hm : 2 ≤ m) (b : Bool) (l : List BB) (hl : l.length ≤ 50) (hy : ∀ y ∈ l, y.length ≤ 100) (t : BB) (ht : t ≠ []) (htl : t.length ≤ 100000) : ∀ (k i : Nat), l.length - i < k → i ≤ l.length →
    lq4__0_0 (T m) (q + 1) k [44, 32] (BW (t ++ joinTl (l.take i))) b (strs l) (natI l.length) (i : Int) = some (.one (sC (t ++ joinTl l)), [])
  | 0, i, h, _ => by omega
  | k + 1, i, h, hi => by
    have h8 := joinTl_len (l.take i) fun y hy' => hy y (List.mem_of_mem_take hy')
    rw [List.length_take] at h8
    have h9 : min i l.length ≤ 50 := by omega
    rw [lq4__0_0e]
    by_cases hlt : i < l.length
    · have ih := join_loop q hm b l hl hy t ht htl k (i + 1) (by omega) (by omega)
      have hyi := hy l[i] (List.getElem_mem hlt)
      refine bif_t (decide_eq_true (by rw [natI_eq']; omega)) (iR_of (v := (l[i], ())) rfl (strs_get hlt) (by simp) rfl ?_)
      dsimp only
      refine cws hm (by simp; omega) fun _ => bif_t rfl (cws hm (by simp; omega) fun _ => bif_t rfl ?_)
      dsimp only
      rw [show w64 ((i : Int) + 1) = ((i + 1 : Nat) : Int) from w64_n (by omega) (by omega)]
      rw [joinTl_take hlt] at ih
      rw [List.append_assoc, List.append_assoc, ← List.append_assoc (joinTl (l.take i))]
      exact ih
    · obtain rfl : i = l.length := by omega
      rw [List.take_length] at h8 ⊢
      refine bif_f (decide_eq_false (by rw [natI_eq']; omega)) (cstr hm (by simp [ht]) (by simp; omega) rfl)
theorem sum_loop (q : Nat) (hm : 2 ≤ m) (b : Bool) (x : BB) (l : List BB) (hx : x ≠ []) (hl : l.length ≤ 50) (hy : ∀ y ∈ x :: l, y.length ≤ 100) (hq : 60 ≤ q) : ∀ (k i s : Nat), l.length + 1 - i < k → i ≤ l.length + 1 → 1 ≤ s → s ≤ 1000 + 100 * i →
    lq4__1_0 (T m) (q + 1) k b (strs (x :: l)) [44, 32] (s : Int) b (strs (x :: l)) (natI (strs (x :: l)).length) (i : Int) = some (.one (sC (joinS (x :: l))), [])
  | 0, i, s, h, _, _, _ => by omega
  | k + 1, i, s, h, hi, h1, hs => by
    rw [lq4__1_0e]
    have hlen : natI (strs (x :: l)).length = ((l.length + 1 : Nat) : Int) := by simp [natI]
    by_cases hlt : i < (x :: l).length
    · have hyi := hy (x :: l)[i] (List.getElem_mem hlt)
      have hlt' : i < l.length + 1 := by simpa using hlt
      have hw : w64 (9223372036854775807 - (s : Int)) = 9223372036854775807 - (s : Int) := w64_eq (by omega) (by omega)
      have ih := sum_loop q hm b x l hx hl hy hq k (i + 1) (s + (x :: l)[i].length) (by omega) (by omega) (by omega) (by omega)
      refine bif_t (by rw [hlen]; exact decide_eq_true (by omega)) (iR_of (v := ((x :: l)[i], ())) rfl (strs_get hlt) (by simp) rfl ?_)
      dsimp only
      refine bif_f (by rw [hw]; exact decide_eq_false (by rw [natI_eq']; omega)) ?_
      rw [show w64 ((i : Int) + 1) = ((i + 1 : Nat) : Int) from w64_n (by omega) (by omega), show w64 ((s : Int) + natI (x :: l)[i].length) = ((s + (x :: l)[i].length : Nat) : Int) from w64_n (by rw [natI_eq']; omega) (by omega)]
      exact ih
    · have hx1 := hy x (List.mem_cons_self ..)
      have hlt' : ¬ i < l.length + 1 := by simpa using hlt
      refine bif_f (by rw [hlen]; exact decide_eq_false (by omega)) (cgrow (by omega) h1 (by omega) (qo (b := [.str x]) rfl (gd_t rfl ?_)))
      show c33 (T m) x (BW []) _ = _
      refine cws hm (by simp; omega) fun _ => bif_t rfl (gd_t ?_ ?_)
      · simp
      · have hd : List.take ((strs (x :: l)).length - Int.toNat 1) (List.drop 1 (strs (x :: l))) = strs l := by
          show List.take ((strs l).length + 1 - 1) (strs l) = _
          rw [Nat.add_sub_cancel, List.take_length]
        rw [hd, show natI (strs l).length = natI l.length by rw [List.length_map]]
        have := join_loop q hm b l hl (fun y h => hy y (List.mem_cons_of_mem _ h)) x hx (by omega) (q + 1) 0 (by omega) (by omega)
        rw [show joinTl (l.take 0) = [] from rfl, List.append_nil] at this
        exact this
theorem cjoin (hm : 70 ≤ m) {l : List BB} (b : Bool) (h1 : l ≠ []) (hne : ∀ y ∈ l, y ≠ []) (hl : l.length ≤ 50) (hy : ∀ y ∈ l, y.length ≤ 100) {K : BB × Unit → OR} (h : K (joinS l, ()) = z) : c37 (T m) b (strs l) [44, 32] K = z := by
  obtain ⟨m, rfl⟩ : ∃ n, m = n + 2 := ⟨m - 2, by omega⟩
  cases l with
  | nil => exact absurd rfl h1
  | cons x l =>
    refine tr_s (eq4_ ?_) h
    cases l with
    | nil => exact bif_f rfl (bif_t rfl (qo (b := [.str x]) rfl (gd_t rfl (by rw [show joinS [x] = x from List.append_nil x]; rfl))))
    | cons y l =>
      have hlen : natI (strs (x :: y :: l)).length = ((l.length + 2 : Nat) : Int) := by simp [natI]; omega
      have hll : l.length + 2 ≤ 50 := by simpa using hl
      have hw : w64 (natI (strs (x :: y :: l)).length - 1) = ((l.length + 1 : Nat) : Int) := by rw [hlen]; exact w64_n (by omega) (by omega)
      refine bif_f (by rw [hlen]; exact beq_eq_false_iff_ne.2 (by omega)) (bif_f (by rw [hlen]; exact beq_eq_false_iff_ne.2 (by omega)) (bif_t rfl (gd_t ?_ (bif_f ?_ ?_))))
      · rw [hw]; simp; omega
      · rw [hw]
        have h3 : 2 < Int.tdiv 9223372036854775807 ((l.length + 1 : Nat) : Int) := by
          rw [Int.tdiv_eq_ediv_of_nonneg (by omega)]
          have : (3 : Int) ≤ 9223372036854775807 / ((l.length + 1 : Nat) : Int) := Int.le_ediv_of_mul_le (by omega) (by omega)
          omega
        have h4 : Int.tdiv 9223372036854775807 ((l.length + 1 : Nat) : Int) ≤ 9223372036854775807 := by
          rw [Int.tdiv_eq_ediv_of_nonneg (by omega)]
          exact Int.ediv_le_self _ (by omega)
        rw [w64_eq (by omega) h4]
        exact decide_eq_false (by show ¬ ((2 : Int) ≥ _); omega)
      · rw [lq4__2_0e, lq4__3_0e, hw]
        rw [show w64 (0 + w64 (natI (List.length ([44, 32] : BB)) * ((l.length + 1 : Nat) : Int))) = ((2 * (l.length + 1) : Nat) : Int) by
          rw [show natI (List.length ([44, 32] : BB)) = 2 from rfl, show w64 ((2 : Int) * ((l.length + 1 : Nat) : Int)) = ((2 * (l.length + 1) : Nat) : Int) from w64_n (by omega) (by omega)]
          exact w64_n (by omega) (by omega)]
        exact sum_loop m (by omega) b x (y :: l) (hne x (List.mem_cons_self ..)) (by simp; omega) hy (by omega) (m + 1) 0 (2 * (l.length + 1)) (by simp; omega) (by omega) (by omega) (by omega)
end
end
section
open Go Go.Abs
def armTx (x : AM) : BB := x.lab ++ [40] ++ carT x.kd x.nm ++ [41, 32] ++ dg x.nx
def armsTx (l : List AM) : BB := [32, 123, 32] ++ joinS (l.map armTx) ++ [32, 125]
def ptTx (i : Nat) (p : PT) : BB := ([32, 32] ++ dg i ++ [58, 32]) ++ (if p.ms = [] then [101, 110, 100, 10] else p.fr ++ [32, 45, 62, 32] ++ p.to ++ armsTx p.ms ++ [10])
def ptsTx : Nat → List PT → BB
  | _, [] => [125, 10]
  | i, p :: t => ptTx i p ++ ptsTx (i + 1) t
def protTx (M : Nat) (ps : List PT) : BB := ([112, 114, 111, 116, 111, 99, 111, 108, 32] ++ [112] ++ [32, 114, 111, 108, 101, 115, 32] ++ joinS ((List.range M).map roleAt) ++ [32, 123, 10]) ++ ptsTx 0 ps
def tnTx (i : Nat) (p : TN) : BB := ([32, 32] ++ dg i ++ [58, 32]) ++ (if p.ms = [] then [101, 110, 100, 10] else if p.kd = 1 then [116, 111, 32] ++ p.pr ++ armsTx p.ms ++ [10] else [102, 114, 111, 109, 32] ++ p.pr ++ armsTx p.ms ++ [10])
def tnsTx : Nat → List TN → BB
  | _, [] => [125, 10]
  | i, p :: t => tnTx i p ++ tnsTx (i + 1) t
def locTx (ts : List TN) : BB := ([108, 111, 99, 97, 108, 32] ++ [122, 122] ++ [32, 123, 10]) ++ tnsTx 0 ts
theorem lab_len {x : BB} (h : x ∈ labs) : x.length ≤ 2 := by
  simp only [labs, List.mem_cons, List.not_mem_nil, or_false] at h
  rcases h with rfl | rfl | rfl | rfl | rfl <;> decide
theorem car_len {k : Int} {x : BB} (h : (k, x) ∈ cars) : (carT k x).length ≤ 8 := by
  simp only [cars, List.mem_cons, List.not_mem_nil, or_false, Prod.mk.injEq] at h
  rcases h with ⟨rfl, rfl⟩ | ⟨rfl, rfl⟩ | ⟨rfl, rfl⟩ | ⟨rfl, rfl⟩ | ⟨rfl, rfl⟩ | ⟨rfl, rfl⟩ | ⟨rfl, rfl⟩ | ⟨rfl, rfl⟩ <;> decide
theorem dg_len (k : Nat) : (dg k).length = 1 := rfl
theorem armTx_len {P : Nat} {x : AM} (h : okM P x) : (armTx x).length ≤ 14 := by
  have := lab_len h.1
  have := car_len h.2.1
  simp only [armTx, List.length_append, List.length_cons, List.length_nil, dg_len]; omega
theorem joinS_len (l : List BB) (h : ∀ y ∈ l, y.length ≤ 14) : (joinS l).length ≤ 16 * l.length := by
  cases l with
  | nil => simp [joinS]
  | cons x l =>
    have h1 := h x (List.mem_cons_self ..)
    have h2 : ∀ l : List BB, (∀ y ∈ l, y.length ≤ 14) → (joinTl l).length ≤ 16 * l.length := by
      intro l
      induction l with
      | nil => intro _; simp [joinTl]
      | cons y l ih =>
        intro h
        have h1 := h y (List.mem_cons_self ..)
        have h2 := ih fun y hy => h y (List.mem_cons_of_mem _ hy)
        simp only [joinTl, List.flatMap_cons, List.length_append, List.length_cons, List.length_nil] at h2 ⊢
        omega
    have := h2 l fun y hy => h y (List.mem_cons_of_mem _ hy)
    simp only [joinS, List.length_append, List.length_cons]; omega
theorem armsTx_len {P : Nat} {l : List AM} (h : okMs P l) : (armsTx l).length ≤ 60 := by
  have h1 := joinS_len (l.map armTx) (by
    intro y hy
    rw [List.mem_map] at hy
    obtain ⟨x, hx, rfl⟩ := hy
    exact armTx_len (h.2.2.2 x hx))
  have := h.2.1
  rw [List.length_map] at h1
  simp only [armsTx, List.length_append, List.length_cons, List.length_nil]; omega
section
variable {m : Nat} {z : OR}
theorem citoa (hm : 20 ≤ m) {k : Nat} (hk : k < 10) {K : BB × Unit → OR} (h : K (dg k, ()) = z) : c34 (T m) (k : Int) K = z := tr_s (itoa_ok m hm hk) h
theorem cpcar (hm : 80 ≤ m) {k : Int} {x : BB} (hx : (k, x) ∈ cars) {K : BB × Unit → OR} (h : K (carT k x, ()) = z) : c66 (T m) k x K = z := tr_s (pcar_ok m hm hx) h
theorem parms_loop (q : Nat) (hm : 80 ≤ m) (b : Bool) {P : Nat} (hP : P ≤ 10) {l : List AM} (hok : okMs P l) : ∀ (k i : Nat), l.length - i < k → i ≤ l.length →
    lqk__0_1 (T m) (q + 1) k (strs ((l.take i).map armTx)) b (l.map cM) (natI (l.map cM).length) (i : Int) = some (.one (sC (armsTx l)), [])
  | 0, i, h, _ => by omega
  | k + 1, i, h, hi => by
    have h3 := hok.2.1
    rw [lqk__0_1e]
    by_cases hlt : i < l.length
    · have ih := parms_loop q hm b hP hok k (i + 1) (by omega) (by omega)
      have hg : l[i]? = some l[i] := List.getElem?_eq_getElem hlt
      obtain ⟨o1, o2, o3⟩ := hok.2.2.2 l[i] (List.getElem_mem hlt)
      have n1 := lab_len o1
      have n2 := car_len o2
      rw [List.take_add_one, hg] at ih
      refine bif_t (decide_eq_true (by rw [natI_eq', List.length_map]; omega)) (iR_of (v := (l[i].lab, l[i].kd, l[i].nm, (l[i].nx : Int), ())) rfl (get_cM hg) (by simp [cM]) rfl ?_)
      dsimp only
      refine gd_t (decide_eq_true (by omega)) (cpcar hm o2 (g63_t (by simp; omega) (g63_t (by simp; omega) (citoa (by omega) (by omega) (g63_t (by simp [dg]; omega) (gd_t (room (by simp; omega) (by omega)) ?_))))))
      dsimp only
      rw [set_app, show w64 ((i : Int) + 1) = ((i + 1 : Nat) : Int) from w64_n (by omega) (by omega)]
      rw [List.map_append, show ∀ a b : List BB, strs (a ++ b) = strs a ++ strs b from fun a b => List.map_append] at ih
      exact ih
    · obtain rfl : i = l.length := by omega
      have hj := joinS_len (l.map armTx) (by
        intro y hy
        rw [List.mem_map] at hy
        obtain ⟨x, hx, rfl⟩ := hy
        exact armTx_len (hok.2.2.2 x hx))
      rw [List.length_map] at hj
      rw [List.take_length]
      refine bif_f (decide_eq_false (by rw [natI_eq', List.length_map]; omega)) (gd_t (g2 _) ?_)
      rw [whole_eq, plainStr]
      refine cjoin (by omega) false ?_ ?_ (by simp; omega) ?_ (gd_t (decide_eq_true ?_) (g63_t ?_ rfl))
      · have := hok.1
        intro e
        rw [List.map_eq_nil_iff] at e
        rw [e] at this; simp at this
      · intro y hy
        rw [List.mem_map] at hy
        obtain ⟨x, hx, rfl⟩ := hy
        simp [armTx]
      · intro y hy
        rw [List.mem_map] at hy
        obtain ⟨x, hx, rfl⟩ := hy
        have := armTx_len (hok.2.2.2 x hx)
        omega
      · dsimp only; omega
      · simp; omega
theorem cparms (hm : 100 ≤ m) (b : Bool) {P : Nat} (hP : P ≤ 10) {l : List AM} (hok : okMs P l) {K : BB × Unit → OR} (h : K (armsTx l, ()) = z) : c35 (T m) b (l.map cM) K = z := by
  obtain ⟨m, rfl⟩ : ∃ n, m = n + 2 := ⟨m - 2, by omega⟩
  refine tr_s (eqk_ ?_) h
  have h1 := hok.1
  have hlt : 0 < l.length := by omega
  have hg : l[0]? = some l[0] := List.getElem?_eq_getElem hlt
  obtain ⟨o1, o2, o3⟩ := hok.2.2.2 l[0] (List.getElem_mem hlt)
  have n1 := lab_len o1
  have n2 := car_len o2
  have h3 := hok.2.1
  rw [lqk__0_0e]
  refine bif_t (decide_eq_true (by rw [natI_eq', List.length_map]; omega)) (iR_of (i := 0) (v := (l[0].lab, l[0].kd, l[0].nm, (l[0].nx : Int), ())) rfl (get_cM hg) (by simp [cM]) rfl ?_)
  dsimp only
  refine gd_t (decide_eq_true (by omega)) (cpcar (by omega) o2 (g63_t (by simp; omega) (g63_t (by simp; omega) (citoa (by omega) (by omega) (g63_t (by simp [dg]; omega) (gd_t rfl ?_))))))
  dsimp only
  have := parms_loop (m := m + 1) m (by omega) b hP hok m 1 (by omega) (by omega)
  rw [List.take_add_one, hg] at this
  exact this
theorem ptTx_len {P many i : Nat} {p : PT} (h : okP P many p) : (ptTx i p).length ≤ 80 := by
  rcases h with ⟨p1, p2, p3⟩ | ⟨k1, k2, q1, q2, q3, p1, p2, p3⟩
  · simp [ptTx, p3, dg]
  · have := armsTx_len p3
    have h1 : p.fr.length = 1 := by rw [p1]; rfl
    have h2 : p.to.length = 1 := by rw [p2]; rfl
    have h3 : p.ms ≠ [] := by
      intro e
      have := p3.1
      rw [e] at this; simp at this
    simp only [ptTx, h3, if_false, List.length_append, List.length_cons, List.length_nil, dg_len]; omega
theorem pts_print (q : Nat) (hm : 110 ≤ m) (b : Bool) {P many : Nat} (hP : P ≤ 10) {l : List PT} (hl : l.length ≤ 10) (hok : ∀ p ∈ l, okP P many p) : ∀ (k i : Nat) (t : BB), l.length - i < k → i ≤ l.length → t ≠ [] → t.length ≤ 100 + 80 * i →
    lqf__0_0 (T m) (q + 1) k (BW t) b (l.map cP) (natI (l.map cP).length) (i : Int) = some (.one (sC (t ++ ptsTx i (l.drop i))), [])
  | 0, i, t, h, _, _, _ => by omega
  | k + 1, i, t, h, hi, ht, htl => by
    rw [lqf__0_0e]
    by_cases hlt : i < l.length
    · have hg : l[i]? = some l[i] := List.getElem?_eq_getElem hlt
      have hd : l.drop i = l[i] :: l.drop (i + 1) := List.drop_eq_getElem_cons hlt
      have hp := hok l[i] (List.getElem_mem hlt)
      have hpl := ptTx_len (i := i) hp
      have ih := pts_print q hm b hP hl hok k (i + 1) (t ++ ptTx i l[i]) (by omega) (by omega) (by simp [ht]) (by simp only [List.length_append]; omega)
      have hw : w64 ((i : Int) + 1) = ((i + 1 : Nat) : Int) := w64_n (by omega) (by omega)
      rw [List.append_assoc] at ih
      refine bif_t (decide_eq_true (by rw [natI_eq', List.length_map]; omega)) (iR_of (v := (l[i].fr, l[i].to, (l[i].t, l[i].ms.map cM), ())) rfl (get_cP hg) (by simp [cP]) (by simp [cP, decRow, decD]) ?_)
      dsimp only
      refine citoa (by omega) (by omega) (gd_t (decide_eq_true (by simp [dg])) (g63_t (by simp [dg]) (cws (by omega) (by simp [dg]; omega) fun _ => bif_t rfl ?_)))
      dsimp only
      rw [hw, hd, show ptsTx i (l[i] :: l.drop (i + 1)) = ptTx i l[i] ++ ptsTx (i + 1) (l.drop (i + 1)) from rfl]
      rcases hp with ⟨p1, p2, p3⟩ | ⟨k1, k2, q1, q2, q3, p1, p2, p3⟩
      · rw [show ptTx i l[i] = ([32, 32] ++ dg i ++ [58, 32]) ++ [101, 110, 100, 10] by simp only [ptTx, p3, if_true]] at ih ⊢
        rw [← List.append_assoc t] at ih
        refine bif_t (by rw [p3]; rfl) (cws (by omega) (by simp [dg]; omega) fun _ => bif_t rfl ?_)
        exact ih
      · have h3 : l[i].ms ≠ [] := by
          intro e
          have := p3.1
          rw [e] at this; simp at this
        have hal := armsTx_len p3
        have h1 : l[i].fr.length = 1 := by rw [p1]; rfl
        have h2 : l[i].to.length = 1 := by rw [p2]; rfl
        rw [show ptTx i l[i] = ([32, 32] ++ dg i ++ [58, 32]) ++ (l[i].fr ++ [32, 45, 62, 32] ++ l[i].to ++ armsTx l[i].ms ++ [10]) by simp only [ptTx, h3, if_false]] at ih ⊢
        rw [← List.append_assoc t] at ih
        refine bif_f ?_ (g63_t (by omega) (g63_t (by simp; omega) (cparms (by omega) _ hP p3 (g63_t (by simp; omega) (g63_t (by simp; omega) (cws (by omega) (by simp [dg]; omega) fun _ => bif_t rfl ?_))))))
        · rw [natI_eq', List.length_map]
          exact beq_eq_false_iff_ne.2 (by have := p3.1; omega)
        · exact ih
    · obtain rfl : i = l.length := by omega
      rw [List.drop_length]
      refine bif_f (decide_eq_false (by rw [natI_eq', List.length_map]; omega)) (cws (by omega) (by simp; omega) fun _ => bif_t rfl ?_)
      exact cstr (by omega) (by simp) (by simp; omega) rfl
theorem cprot (hm : 130 ≤ m) (b2 b : Bool) {many : Nat} {l : List PT} (h : okPr many l) {K : BB × Unit → OR} (hK : K (protTx many l, ()) = z) : c12 (T m) [112] b2 (rolesR many) b (l.map cP) K = z := by
  obtain ⟨m, rfl⟩ : ∃ n, m = n + 2 := ⟨m - 2, by omega⟩
  have hr : rolesR many = strs ((List.range many).map roleAt) := by simp [rolesR, strs]
  have hl4 := h.2.1
  have hl2 := h.1
  have hj := joinS_len ((List.range many).map roleAt) (by
    intro y hy
    rw [List.mem_map] at hy
    obtain ⟨x, hx, rfl⟩ := hy
    simp [roleAt])
  rw [List.length_map, List.length_range] at hj
  refine tr_s (eqf_ (tr_b (gmay (m + 1) (by omega) b2 b h) (bif_f rfl (g63_t (by decide) (g63_t (by decide) ?_))))) hK
  rw [hr]
  refine cjoin (by omega) b2 ?_ ?_ (by simp; omega) ?_ (g63_t ?_ (g63_t ?_ (cws0 (by omega) ?_ ?_ fun _ => bif_t rfl ?_)))
  · intro e
    rw [List.map_eq_nil_iff, List.range_eq_nil] at e
    omega
  · intro y hy
    rw [List.mem_map] at hy
    obtain ⟨x, hx, rfl⟩ := hy
    simp [roleAt]
  · intro y hy
    rw [List.mem_map] at hy
    obtain ⟨x, hx, rfl⟩ := hy
    simp [roleAt]
  · simp; omega
  · simp; omega
  · simp
  · simp; omega
  · have := pts_print (m := m + 1) m (by omega) b (P := l.length) (many := many) (by have := h.2.2.2.1; omega) (l := l) (by have := h.2.2.2.1; omega) h.2.2.2.2 (m + 1) 0
      ([112, 114, 111, 116, 111, 99, 111, 108, 32] ++ [112] ++ [32, 114, 111, 108, 101, 115, 32] ++ joinS ((List.range many).map roleAt) ++ [32, 123, 10]) (by have := h.2.2.2.1; omega) (by omega) (by simp) (by simp; omega)
    rw [List.drop_zero] at this
    exact this
theorem tnTx_len {P i : Nat} {p : TN} (h : okN P p) : (tnTx i p).length ≤ 80 := by
  rcases h with ⟨p1, p2, p3⟩ | ⟨p1, ⟨k, p2, p3⟩, p4⟩
  · simp [tnTx, p3, dg]
  · have := armsTx_len p4
    have h1 : p.pr.length = 1 := by rw [p3]; rfl
    have h3 : p.ms ≠ [] := by
      intro e
      have := p4.1
      rw [e] at this; simp at this
    simp only [tnTx, h3, if_false, List.length_append, List.length_cons, List.length_nil, dg_len]
    split <;> simp only [List.length_append, List.length_cons, List.length_nil] <;> omega
theorem tns_print (q : Nat) (hm : 110 ≤ m) (b : Bool) {P : Nat} (hP : P ≤ 10) {l : List TN} (hl : l.length ≤ 10) (hok : ∀ p ∈ l, okN P p) : ∀ (k i : Nat) (t : BB), l.length - i < k → i ≤ l.length → t ≠ [] → t.length ≤ 100 + 80 * i →
    lq7__0_0 (T m) (q + 1) k (BW t) b (l.map cN) (natI (l.map cN).length) (i : Int) = some (.one (sC (t ++ tnsTx i (l.drop i))), [])
  | 0, i, t, h, _, _, _ => by omega
  | k + 1, i, t, h, hi, ht, htl => by
    rw [lq7__0_0e]
    by_cases hlt : i < l.length
    · have hg : l[i]? = some l[i] := List.getElem?_eq_getElem hlt
      have hd : l.drop i = l[i] :: l.drop (i + 1) := List.drop_eq_getElem_cons hlt
      have hp := hok l[i] (List.getElem_mem hlt)
      have hpl := tnTx_len (i := i) hp
      have ih := tns_print q hm b hP hl hok k (i + 1) (t ++ tnTx i l[i]) (by omega) (by omega) (by simp [ht]) (by simp only [List.length_append]; omega)
      have hw : w64 ((i : Int) + 1) = ((i + 1 : Nat) : Int) := w64_n (by omega) (by omega)
      rw [List.append_assoc] at ih
      refine bif_t (decide_eq_true (by rw [natI_eq', List.length_map]; omega)) (iR_of (v := (l[i].kd, l[i].pr, (l[i].t, l[i].ms.map cM), ())) rfl (get_cN hg) (by simp [cN]) (by simp [cN, decRow, decD]) ?_)
      dsimp only
      refine citoa (by omega) (by omega) (gd_t (decide_eq_true (by simp [dg])) (g63_t (by simp [dg]) (cws (by omega) (by simp [dg]; omega) fun _ => bif_t rfl ?_)))
      dsimp only
      rw [hw, hd, show tnsTx i (l[i] :: l.drop (i + 1)) = tnTx i l[i] ++ tnsTx (i + 1) (l.drop (i + 1)) from rfl]
      rcases hp with ⟨p1, p2, p3⟩ | ⟨p1, ⟨k1, p2, p3⟩, p4⟩
      · rw [show tnTx i l[i] = ([32, 32] ++ dg i ++ [58, 32]) ++ [101, 110, 100, 10] by simp only [tnTx, p3, if_true]] at ih ⊢
        rw [← List.append_assoc t] at ih
        refine bif_t (by rw [p1]; rfl) (cws (by omega) (by simp [dg]; omega) fun _ => bif_t rfl ?_)
        exact ih
      · have h3 : l[i].ms ≠ [] := by
          intro e
          have := p4.1
          rw [e] at this; simp at this
        have hal := armsTx_len p4
        have h1 : l[i].pr.length = 1 := by rw [p3]; rfl
        rcases p1 with p1 | p1
        · rw [show tnTx i l[i] = ([32, 32] ++ dg i ++ [58, 32]) ++ ([116, 111, 32] ++ l[i].pr ++ armsTx l[i].ms ++ [10]) by simp only [tnTx, h3, if_false, p1, if_true]] at ih ⊢
          rw [← List.append_assoc t] at ih
          refine bif_f (by rw [p1]; rfl) (bif_t (by rw [p1]; rfl) (g63_t (by omega) (cparms (by omega) _ hP p4 (g63_t (by simp; omega) (g63_t (by simp; omega) (cws (by omega) (by simp [dg]; omega) fun _ => bif_t rfl ?_))))))
          exact ih
        · rw [show tnTx i l[i] = ([32, 32] ++ dg i ++ [58, 32]) ++ ([102, 114, 111, 109, 32] ++ l[i].pr ++ armsTx l[i].ms ++ [10]) by simp [tnTx, h3, p1]] at ih ⊢
          rw [← List.append_assoc t] at ih
          refine bif_f (by rw [p1]; rfl) (bif_f (by rw [p1]; rfl) (bif_t (by rw [p1]; rfl) (g63_t (by omega) (cparms (by omega) _ hP p4 (g63_t (by simp; omega) (g63_t (by simp; omega) (cws (by omega) (by simp [dg]; omega) fun _ => bif_t rfl ?_)))))))
          exact ih
    · obtain rfl : i = l.length := by omega
      rw [List.drop_length]
      refine bif_f (decide_eq_false (by rw [natI_eq', List.length_map]; omega)) (cws (by omega) (by simp; omega) fun _ => bif_t rfl ?_)
      exact cstr (by omega) (by simp) (by simp; omega) rfl
theorem cloc (hm : 130 ≤ m) (b : Bool) {l : List TN} (h : okLo l) {K : BB × Unit → OR} (hK : K (locTx l, ()) = z) : c11 (T m) [122, 122] b (l.map cN) K = z := by
  obtain ⟨m, rfl⟩ : ∃ n, m = n + 2 := ⟨m - 2, by omega⟩
  have hl := h.2.1
  refine tr_s (eq7_ (tr_b (tmay (m + 1) (by omega) b _ h.1 (by omega) fun p hp => okN_of (h.2.2 p hp)) (bif_f rfl (tr_b (may_ok (m + 1) (by omega) (by decide)) (bif_f rfl ?_))))) hK
  rw [lq7__1_0e]
  refine g63_t (show (8 : Nat) ≤ 1000000 by decide) (g63_t (show (11 : Nat) ≤ 1000000 by decide) (cws0 (by omega) (by simp) (by simp) fun _ => bif_t rfl ?_))
  have := tns_print (m := m + 1) m (by omega) b (P := l.length) (by omega) (l := l) (by omega) h.2.2 (m + 1) 0
      ([108, 111, 99, 97, 108, 32] ++ [122, 122] ++ [32, 123, 10]) (by omega) (by omega) (by simp) (by simp)
  rw [List.drop_zero] at this
  exact this
end
end
section
open Go Go.Abs
def nP (p : PT) : PT := if p.ms = [] then ⟨[], [], true, []⟩ else ⟨p.fr, p.to, false, p.ms⟩
def ptToks (i : Nat) (p : PT) : List (Int × BB) := (1, dg i) :: (3, [58]) :: (if p.ms = [] then [(0, [101, 110, 100])] else (0, p.fr) :: (3, [45, 62]) :: (0, p.to) :: armsToks p.ms)
def ptsToks : Nat → List PT → List (Int × BB)
  | _, [] => [(3, [125])]
  | i, p :: t => ptToks i p ++ ptsToks (i + 1) t
def rsToks : Nat → Nat → List (Int × BB)
  | _, 0 => [(3, [123])]
  | k, n + 1 => (3, [44]) :: (0, roleAt k) :: rsToks (k + 1) n
def protToks (M : Nat) (ps : List PT) : List (Int × BB) := (0, [112]) :: (0, [114, 111, 108, 101, 115]) :: (0, roleAt 0) :: (rsToks 1 (M - 1) ++ ptsToks 0 ps)
def nN (p : TN) : TN := if p.ms = [] then ⟨0, [], true, []⟩ else ⟨p.kd, p.pr, false, p.ms⟩
def tnToks (i : Nat) (p : TN) : List (Int × BB) := (1, dg i) :: (3, [58]) :: (if p.ms = [] then [(0, [101, 110, 100])] else (0, if p.kd = 1 then [116, 111] else [102, 114, 111, 109]) :: (0, p.pr) :: armsToks p.ms)
def tnsToks : Nat → List TN → List (Int × BB)
  | _, [] => [(3, [125])]
  | i, p :: t => tnToks i p ++ tnsToks (i + 1) t
def locToks (ts : List TN) : List (Int × BB) := (0, [122, 122]) :: (3, [123]) :: tnsToks 0 ts
theorem role_end {k : Nat} : (roleAt k == [101, 110, 100]) = false := by
  rw [beq_eq_false_iff_ne]; intro h; have := congrArg List.length h; simp [roleAt] at this
section
variable {m a : Nat} {b : Bool} {L : RR} {e : Int} {rst : RowT sh19} {z : OR}
theorem armLen (x : AM) : (armToks x).length ≤ 8 := by
  have := carLen x.kd x.nm
  simp [armToks]; omega
theorem sepLen : ∀ t : List AM, (sepToks t).length ≤ 9 * t.length + 1
  | [] => by simp [sepToks]
  | x :: t => by
    have := armLen x
    have := sepLen t
    simp only [sepToks, List.length_cons, List.length_append]; omega
theorem armsLen {P : Nat} {l : List AM} (h : okMs P l) : (armsToks l).length ≤ 40 := by
  cases l with
  | nil => simp [armsToks]
  | cons x t =>
    have := armLen x
    have := sepLen t
    have := h.2.1
    simp only [armsToks, List.length_cons, List.length_append] at *; omega
theorem okMs_ne {P : Nat} {l : List AM} (h : okMs P l) : l ≠ [] := by
  intro e; have := h.1; rw [e] at this; simp at this
theorem ptLen {P many i : Nat} {p : PT} (h : okP P many p) : (ptToks i p).length ≤ 50 := by
  rcases h with ⟨p1, p2, p3⟩ | ⟨k1, k2, q1, q2, q3, p1, p2, p3⟩
  · simp [ptToks, p3]
  · have := armsLen p3
    simp [ptToks, okMs_ne p3]; omega
theorem tnLen {P i : Nat} {p : TN} (h : okN P p) : (tnToks i p).length ≤ 50 := by
  rcases h with ⟨p1, p2, p3⟩ | ⟨_, _, p3⟩
  · simp [tnToks, p3]
  · have := armsLen p3
    simp [tnToks, okMs_ne p3]; omega
theorem pts_parse (q : Nat) (hm : 70 ≤ m) (x0 : RowT sh11) (a1 : RowT sh13) {P many : Nat} (hP : P ≤ 10) (h4 : many ≤ 4) {rs : RR} (hrs : rs ≠ []) (hpl : plainRs rs = rs) : ∀ (t : List PT) (k a : Nat) (R : List PT), t.length < k → a + 50 * t.length < 60000 → R.length + t.length ≤ 10 → R ++ t ≠ [] → (∀ y ∈ t, okP P many y) → Ats L a (ptsToks R.length t) →
    lq1__0_0 (T m) (q + 1) x0 k (PB b L a e rst) a1 ([112], (.own, rs), tgs ((R.map nP).map cP), ()) = some (.agg [sC [112], lC (.im false) 1 rs, lC (.im false) 3 (((R ++ t).map nP).map cP)], [bx sh11 (PB b L (a + (ptsToks R.length t).length) e rst)])
  | [], k + 1, a, R, hk, hal, hR, hne, hok, h => by
    obtain ⟨h1, _⟩ := h
    rw [List.append_nil] at hne ⊢
    rw [lq1__0_0e]
    refine cfailed (by omega) (bif_t rfl (cis (by omega) h1 (.inr rfl) (bif_f rfl ?_)))
    dsimp only
    rw [lq1__3_0e]
    refine cneed (by omega) (by omega) h1 (.inr rfl) ?_
    cases R with
    | nil => exact absurd rfl hne
    | cons p R =>
      refine tg_own (tg_own (gd_t (g1 hrs) (gd_t (g1 (by simp [tgs])) (gd_t (g2 _) (gd_t (g2 _) ?_)))))
      simp only [whole_eq, tgs, hpl]
      rw [plainPs]
      rfl
  | x :: t, k + 1, a, R, hk, hal, hR, hne, hok, h => by
    have hx := hok x (List.mem_cons_self ..)
    have hxl := ptLen (i := R.length) hx
    have h' : Ats L a (ptToks R.length x ++ ptsToks (R.length + 1) t) := h
    obtain ⟨h1, h2⟩ := Ats_app.1 h'
    obtain ⟨t1, t2, t3⟩ := h1
    simp only [List.length_cons] at hal hk hR
    have hRl : R.length < 10 := by omega
    rw [lq1__0_0e]
    refine cfailed (by omega) (bif_t rfl (cis_no1 (by omega) t1 (bif_t rfl ?_)))
    dsimp only
    rw [lq1__2_0e]
    have hlen : natI (tgs ((R.map nP).map cP)).2.length = (R.length : Int) := by simp [tgs, natI]
    have ih := pts_parse q hm x0 a1 hP h4 hrs hpl t k (a + (ptToks R.length x).length) (R ++ [x]) (by omega) (by omega) (by simp; omega) (by simp) (fun y hy => hok y (List.mem_cons_of_mem _ hy)) (by rw [List.length_append]; exact h2)
    rw [List.map_append, List.map_append, show List.map cP (List.map nP [x]) = [cP (nP x)] from rfl, tgs_app, List.append_assoc, show [x] ++ t = x :: t from rfl,
      show (R ++ [x]).length = R.length + 1 by simp, Nat.add_assoc, ← List.length_append] at ih
    have fin : ∀ (fr to : BB) (tb : Bool) (ms : List AM) (a' : Nat), nP x = ⟨fr, to, tb, ms⟩ → a' = a + (ptToks R.length x).length →
        lq1__1_0 (T m) (q + 1) x0 k (q + 1) (PB b L a' e rst) a1 ([112], (.own, rs), tgs ((R.map nP).map cP), ()) (fr, to, ((.im tb), ms.map cM), ()) =
          some (.agg [sC [112], lC (.im false) 1 rs, lC (.im false) 3 (((R ++ x :: t).map nP).map cP)], [bx sh11 (PB b L (a + (ptsToks R.length (x :: t)).length) e rst)]) := by
      intro fr to tb ms a' hc ha
      subst ha
      rw [lq1__1_0e]
      rw [show cP (nP x) = [.str fr, .str to, .sl (.im tb) 4 (ms.map cM)] by rw [hc]; rfl] at ih
      have hl2 : ((R.map nP).map cP).length = R.length := by simp
      generalize (R.map nP).map cP = Q at ih hl2 ⊢
      cases Q with
      | nil => exact tg_im (tg_im (gd_t rfl ih))
      | cons r Q => exact tg_own (tg_im (gd_t (room (by simp only [tgs]; omega) (by omega)) ih))
    have body : ∀ F : RowT sh11 → OR, (∀ (fr to : BB) (tb : Bool) (ms : List AM), True) → True := fun _ _ => trivial
    rcases hx with ⟨p1, p2, p3⟩ | ⟨k1, k2, q1, q2, q3, p1, p2, p3⟩
    · have e1 : ptToks R.length x = [(1, dg R.length), (3, [58]), (0, [101, 110, 100])] := by simp [ptToks, p3]
      have e2 : nP x = ⟨[], [], true, []⟩ := by simp [nP, p3]
      simp only [p3, if_true] at t3
      have fin' := fin [] [] true [] (a + 1 + 1 + 1) e2 (by rw [e1]; rfl)
      have hl2 : ((R.map nP).map cP).length = R.length := by simp
      generalize (R.map nP).map cP = Q at fin' hl2 ⊢
      cases Q with
      | nil => exact tg_im (cplace (by omega) (by omega) hRl t1 (.inr (by rw [← hl2]; rfl)) (cneed (by omega) (by omega) t2 (.inr rfl) (ctake (by omega) (by omega) t3.1 (.inl rfl) (bif_f rfl fin'))))
      | cons r Q => exact tg_own (cplace (by omega) (by omega) hRl t1 (.inr (by rw [← hl2]; rfl)) (cneed (by omega) (by omega) t2 (.inr rfl) (ctake (by omega) (by omega) t3.1 (.inl rfl) (bif_f rfl fin'))))
    · have hne2 := okMs_ne p3
      have e1 : ptToks R.length x = (1, dg R.length) :: (3, [58]) :: (0, x.fr) :: (3, [45, 62]) :: (0, x.to) :: armsToks x.ms := by simp [ptToks, hne2]
      have e2 : nP x = ⟨x.fr, x.to, false, x.ms⟩ := by simp [nP, hne2]
      simp only [hne2, if_false] at t3
      obtain ⟨t3, t4, t5, t6⟩ := t3
      have fin' := fin x.fr x.to false x.ms (a + 1 + 1 + 1 + 1 + 1 + (armsToks x.ms).length) e2 (by rw [e1]; simp only [List.length_cons]; omega)
      have hl2 : ((R.map nP).map cP).length = R.length := by simp
      have hfr : (x.fr == [101, 110, 100]) = false := by rw [p1]; exact role_end
      have n1 : x.fr ∈ nms := p1 ▸ role_nm (by omega)
      have n2 : x.to ∈ nms := p2 ▸ role_nm (by omega)
      generalize (R.map nP).map cP = Q at fin' hl2 ⊢
      cases Q with
      | nil => exact tg_im (cplace (by omega) (by omega) hRl t1 (.inr (by rw [← hl2]; rfl)) (cneed (by omega) (by omega) t2 (.inr rfl) (ctake_no (by omega) t3 hfr (bif_t rfl (cname (by omega) (by omega) t3 n1 (cneed (by omega) (by omega) t4 (.inr rfl) (cname (by omega) (by omega) t5 n2 (carms hm (by omega) hP p3 t6 fin'))))))))
      | cons r Q => exact tg_own (cplace (by omega) (by omega) hRl t1 (.inr (by rw [← hl2]; rfl)) (cneed (by omega) (by omega) t2 (.inr rfl) (ctake_no (by omega) t3 hfr (bif_t rfl (cname (by omega) (by omega) t3 n1 (cneed (by omega) (by omega) t4 (.inr rfl) (cname (by omega) (by omega) t5 n2 (carms hm (by omega) hP p3 t6 fin'))))))))
theorem rolesR_succ (k : Nat) : rolesR k ++ [[.str (roleAt k)]] = rolesR (k + 1) := by
  unfold rolesR
  rw [List.range_succ, List.map_append]; rfl
theorem roles_parse (q : Nat) (hm : 70 ≤ m) (x0 : RowT sh11) (a1 : RowT sh13) : ∀ (n k f a : Nat), k + n ≤ 4 → 1 ≤ k → n < f → a + 2 * n < 60000 → Ats L a (rsToks k n) →
    lq1__4_0 (T m) (q + 1) x0 f (PB b L a e rst) a1 ([112], (.own, rolesR k), (.im true, []), ()) = lq1__0_0 (T m) (q + 1) x0 (q + 1) (PB b L (a + (rsToks k n).length) e rst) a1 ([112], (.own, rolesR (k + n)), (.im true, []), ())
  | 0, k, f + 1, a, h4, h1, hf, ha, h => by
    rw [lq1__4_0e]
    refine ctake_no (by omega) h.1 rfl (bif_f rfl (cneed (by omega) (by omega) h.1 (.inr rfl) ?_))
    rfl
  | n + 1, k, f + 1, a, h4, h1, hf, ha, h => by
    obtain ⟨t1, t2, t3⟩ := h
    rw [lq1__4_0e]
    refine ctake (by omega) (by omega) t1 (.inr rfl) (bif_t rfl (tg_own (cname (by omega) (by omega) t2 (role_nm (by omega)) (gd_t (room (by rw [rolesR_len]; omega) (by omega)) ?_))))
    dsimp only
    have ih := roles_parse q hm x0 a1 n (k + 1) f (a + 1 + 1) (by omega) (by omega) (by omega) (by omega) t3
    rw [set_app, rolesR_succ, ih]
    rw [show k + 1 + n = k + (n + 1) by omega, show a + 1 + 1 + (rsToks (k + 1) n).length = a + (rsToks k (n + 1)).length by simp [rsToks]; omega]
theorem cprotocol (hm : 80 ≤ m) (ha : a < 50000) {M : Nat} {ps : List PT} (hok : okPr M ps) (ht : Ats L a (protToks M ps)) {K : (BB × (Bool × RR) × (Bool × RR) × Unit) × RowT sh11 × Unit → OR}
    (h : K (([112], (false, rolesR M), (false, (ps.map nP).map cP), ()), PB b L (a + (protToks M ps).length) e rst, ()) = z) : c28 (T m) (PB b L a e rst) K = z := by
  obtain ⟨m, rfl⟩ : ∃ n, m = n + 2 := ⟨m - 2, by omega⟩
  obtain ⟨h2, h4, h1, h8, hp⟩ := hok
  obtain ⟨t1, t2, t3, t4⟩ := ht
  obtain ⟨t4, t5⟩ := Ats_app.1 t4
  have hrl : (rsToks 1 (M - 1)).length = 2 * (M - 1) + 1 := by
    have : M = 2 ∨ M = 3 ∨ M = 4 := by omega
    rcases this with rfl | rfl | rfl <;> rfl
  have e1 := roles_parse (m := m + 1) (b := b) (e := e) (rst := rst) m (by omega) (PB b L a e rst) ([], (.im true, []), (.im true, []), ()) (M - 1) 1 (m + 1) (a + 1 + 1 + 1) (by omega) (by omega) (by omega) (by omega) t4
  have e2 := pts_parse (m := m + 1) (b := b) (e := e) (rst := rst) m (by omega) (PB b L a e rst) ([], (.im true, []), (.im true, []), ()) (P := ps.length) (by omega) h4 (rolesR_ne (many := M) (by omega)) (plainRoles M) ps (m + 1) (a + 1 + 1 + 1 + (rsToks 1 (M - 1)).length) [] (by omega) (by omega) (by simp; omega) (by
    intro e
    rw [List.nil_append] at e
    rw [e] at h1; simp at h1) hp t5
  rw [show 1 + (M - 1) = M by omega] at e1
  have e3 : T (m + 2) 28 [pE] [bx sh11 (PB b L a e rst)] = some (.agg [sC [112], lC (.im false) 1 (rolesR M), lC (.im false) 3 ((ps.map nP).map cP)], [bx sh11 (PB b L (a + (protToks M ps).length) e rst)]) := by
    refine eq1_ (cname (by omega) (by omega) t1 (by decide) (cneed (by omega) (by omega) t2 (.inl rfl) (cname (by omega) (by omega) t3 (role_nm (by omega)) ?_)))
    refine (e1.trans e2).trans ?_
    refine congrArg (fun n => some ((V.agg [sC [112], lC (.im false) 1 (rolesR M), lC (.im false) 3 ((ps.map nP).map cP)]), [bx sh11 (PB b L n e rst)])) ?_
    simp only [protToks, List.length_cons, List.length_append, List.length_nil]; omega
  exact tr_v (v := ([112], (false, rolesR M), (false, (ps.map nP).map cP), ())) e3 rfl h
theorem tns_parse (q : Nat) (hm : 70 ≤ m) (x0 : RowT sh11) (a1 : RowT sh5) {P : Nat} (hP : P ≤ 10) : ∀ (t : List TN) (k a : Nat) (R : List TN), t.length < k → a + 50 * t.length < 60000 → R.length + t.length ≤ 10 → R ++ t ≠ [] → (∀ y ∈ t, okN P y) → Ats L a (tnsToks R.length t) →
    lq3__0_0 (T m) (q + 1) x0 k (PB b L a e rst) a1 ([122, 122], tgs ((R.map nN).map cN), ()) = some (.agg [sC [122, 122], lC (.im false) 3 (((R ++ t).map nN).map cN)], [bx sh11 (PB b L (a + (tnsToks R.length t).length) e rst)])
  | [], k + 1, a, R, hk, hal, hR, hne, hok, h => by
    obtain ⟨h1, _⟩ := h
    rw [List.append_nil] at hne ⊢
    rw [lq3__0_0e]
    refine cfailed (by omega) (bif_t rfl (cis (by omega) h1 (.inr rfl) (bif_f rfl ?_)))
    dsimp only
    rw [lq3__3_0e]
    refine cneed (by omega) (by omega) h1 (.inr rfl) ?_
    cases R with
    | nil => exact absurd rfl hne
    | cons p R =>
      refine tg_own (gd_t (g1 (by simp [tgs])) (gd_t (g2 _) ?_))
      simp only [whole_eq, tgs]
      rw [plainNs]
      rfl
  | x :: t, k + 1, a, R, hk, hal, hR, hne, hok, h => by
    have hx := hok x (List.mem_cons_self ..)
    have hxl := tnLen (i := R.length) hx
    have h' : Ats L a (tnToks R.length x ++ tnsToks (R.length + 1) t) := h
    obtain ⟨h1, h2⟩ := Ats_app.1 h'
    obtain ⟨t1, t2, t3⟩ := h1
    simp only [List.length_cons] at hal hk hR
    have hRl : R.length < 10 := by omega
    rw [lq3__0_0e]
    refine cfailed (by omega) (bif_t rfl (cis_no1 (by omega) t1 (bif_t rfl ?_)))
    dsimp only
    rw [lq3__2_0e]
    have ih := tns_parse q hm x0 a1 hP t k (a + (tnToks R.length x).length) (R ++ [x]) (by omega) (by omega) (by simp; omega) (by simp) (fun y hy => hok y (List.mem_cons_of_mem _ hy)) (by rw [List.length_append]; exact h2)
    rw [List.map_append, List.map_append, show List.map cN (List.map nN [x]) = [cN (nN x)] from rfl, tgs_app, List.append_assoc, show [x] ++ t = x :: t from rfl,
      show (R ++ [x]).length = R.length + 1 by simp, Nat.add_assoc, ← List.length_append] at ih
    have fin : ∀ (kd : Int) (pr : BB) (tb : Bool) (ms : List AM) (a' : Nat), nN x = ⟨kd, pr, tb, ms⟩ → a' = a + (tnToks R.length x).length →
        lq3__1_0 (T m) (q + 1) x0 k (q + 1) (PB b L a' e rst) a1 ([122, 122], tgs ((R.map nN).map cN), ()) (kd, pr, ((.im tb), ms.map cM), ()) =
          some (.agg [sC [122, 122], lC (.im false) 3 (((R ++ x :: t).map nN).map cN)], [bx sh11 (PB b L (a + (tnsToks R.length (x :: t)).length) e rst)]) := by
      intro kd pr tb ms a' hc ha
      subst ha
      rw [lq3__1_0e]
      rw [show cN (nN x) = [.int .i64 kd, .str pr, .sl (.im tb) 4 (ms.map cM)] by rw [hc]; rfl] at ih
      have hl2 : ((R.map nN).map cN).length = R.length := by simp
      generalize (R.map nN).map cN = Q at ih hl2 ⊢
      cases Q with
      | nil => exact tg_im (tg_im (gd_t rfl ih))
      | cons r Q => exact tg_own (tg_im (gd_t (room (by simp only [tgs]; omega) (by omega)) ih))
    rcases hx with ⟨p1, p2, p3⟩ | ⟨p1, ⟨k1, p2, p3⟩, p4⟩
    · have e1 : tnToks R.length x = [(1, dg R.length), (3, [58]), (0, [101, 110, 100])] := by simp [tnToks, p3]
      have e2 : nN x = ⟨0, [], true, []⟩ := by simp [nN, p3]
      simp only [p3, if_true] at t3
      have fin' := fin 0 [] true [] (a + 1 + 1 + 1) e2 (by rw [e1]; rfl)
      have hl2 : ((R.map nN).map cN).length = R.length := by simp
      generalize (R.map nN).map cN = Q at fin' hl2 ⊢
      cases Q with
      | nil => exact tg_im (cplace (by omega) (by omega) hRl t1 (.inr (by rw [← hl2]; rfl)) (cneed (by omega) (by omega) t2 (.inr rfl) (ctake (by omega) (by omega) t3.1 (.inl rfl) (bif_t rfl fin'))))
      | cons r Q => exact tg_own (cplace (by omega) (by omega) hRl t1 (.inr (by rw [← hl2]; rfl)) (cneed (by omega) (by omega) t2 (.inr rfl) (ctake (by omega) (by omega) t3.1 (.inl rfl) (bif_t rfl fin'))))
    · have hne2 := okMs_ne p4
      have e2 : nN x = ⟨x.kd, x.pr, false, x.ms⟩ := by simp [nN, hne2]
      have n2 : x.pr ∈ nms := p3 ▸ role_nm (by omega)
      simp only [hne2, if_false] at t3
      have fin' := fin x.kd x.pr false x.ms (a + 1 + 1 + 1 + 1 + (armsToks x.ms).length) e2 (by simp only [tnToks, hne2, if_false, List.length_cons]; omega)
      have hl2 : ((R.map nN).map cN).length = R.length := by simp
      generalize (R.map nN).map cN = Q at fin' hl2 ⊢
      obtain ⟨t3, t5, t6⟩ := t3
      rcases p1 with p1 | p1
      · rw [p1] at fin' t3
        simp only [if_true] at t3
        cases Q with
        | nil => exact tg_im (cplace (by omega) (by omega) hRl t1 (.inr (by rw [← hl2]; rfl)) (cneed (by omega) (by omega) t2 (.inr rfl) (ctake_no (by omega) t3 rfl (bif_f rfl (ctake (by omega) (by omega) t3 (.inl rfl) (bif_t rfl (cname (by omega) (by omega) t5 n2 (carms hm (by omega) hP p4 t6 fin'))))))))
        | cons r Q => exact tg_own (cplace (by omega) (by omega) hRl t1 (.inr (by rw [← hl2]; rfl)) (cneed (by omega) (by omega) t2 (.inr rfl) (ctake_no (by omega) t3 rfl (bif_f rfl (ctake (by omega) (by omega) t3 (.inl rfl) (bif_t rfl (cname (by omega) (by omega) t5 n2 (carms hm (by omega) hP p4 t6 fin'))))))))
      · rw [p1] at fin' t3
        have t3' : At L (a + 1 + 1) 0 [102, 114, 111, 109] := t3
        cases Q with
        | nil => exact tg_im (cplace (by omega) (by omega) hRl t1 (.inr (by rw [← hl2]; rfl)) (cneed (by omega) (by omega) t2 (.inr rfl) (ctake_no (by omega) t3' rfl (bif_f rfl (ctake_no (by omega) t3' rfl (bif_f rfl (cneed (by omega) (by omega) t3' (.inl rfl) (cname (by omega) (by omega) t5 n2 (carms hm (by omega) hP p4 t6 fin')))))))))
        | cons r Q => exact tg_own (cplace (by omega) (by omega) hRl t1 (.inr (by rw [← hl2]; rfl)) (cneed (by omega) (by omega) t2 (.inr rfl) (ctake_no (by omega) t3' rfl (bif_f rfl (ctake_no (by omega) t3' rfl (bif_f rfl (cneed (by omega) (by omega) t3' (.inl rfl) (cname (by omega) (by omega) t5 n2 (carms hm (by omega) hP p4 t6 fin')))))))))
theorem clocal (hm : 80 ≤ m) (ha : a < 50000) {ts : List TN} (hok : okLo ts) (ht : Ats L a (locToks ts)) {K : (BB × (Bool × RR) × Unit) × RowT sh11 × Unit → OR}
    (h : K (([122, 122], (false, (ts.map nN).map cN), ()), PB b L (a + (locToks ts).length) e rst, ()) = z) : c29 (T m) (PB b L a e rst) K = z := by
  obtain ⟨m, rfl⟩ : ∃ n, m = n + 2 := ⟨m - 2, by omega⟩
  obtain ⟨h1, h8, hp⟩ := hok
  obtain ⟨t1, t2, t3⟩ := ht
  have e2 := tns_parse (m := m + 1) (b := b) (e := e) (rst := rst) m (by omega) (PB b L a e rst) ([], (.im true, []), ()) (P := ts.length) (by omega) ts (m + 1) (a + 1 + 1) [] (by omega) (by omega) (by simp; omega) (by
    intro e
    rw [List.nil_append] at e
    rw [e] at h1; simp at h1) hp t3
  have e3 : T (m + 2) 29 [pE] [bx sh11 (PB b L a e rst)] = some (.agg [sC [122, 122], lC (.im false) 3 ((ts.map nN).map cN)], [bx sh11 (PB b L (a + (locToks ts).length) e rst)]) := by
    refine eq3_ (cname (by omega) (by omega) t1 (by decide) (cneed (by omega) (by omega) t2 (.inr rfl) ?_))
    refine e2.trans ?_
    refine congrArg (fun n => some ((V.agg [sC [122, 122], lC (.im false) 3 ((ts.map nN).map cN)]), [bx sh11 (PB b L n e rst)])) ?_
    simp only [locToks, List.length_cons, List.length_append, List.length_nil]; omega
  exact tr_v (v := ([122, 122], (false, (ts.map nN).map cN), ())) e3 rfl h
end
end
section
open Go Go.Abs
theorem decBs2 (ds es : List DS) (p : RowT ds) (q : RowT es) : decBs [ds, es] [bx ds p, bx es q] = some (p, q, ()) := by
  have h := unbx_bx ds p
  have h' := unbx_bx es q
  unfold unbx at h h'
  simp only [decBs, h, h']
theorem tr_bpp {ds es : List DS} {o : OR} {b : Bool} {p : RowT ds} {q : RowT es} {K : (RS.val (.one .bool) [ds, es]).T → OR} {z : OR} (h : o = some (.one (bC b), [bx ds p, bx es q])) (h2 : K (b, p, q, ()) = z) : tRes (.val (.one .bool) [ds, es]) o K = z := by
  subst h
  simp only [tRes, decR, decBs2]
  exact h2
theorem tr_upp {ds es : List DS} {o : OR} {p : RowT ds} {q : RowT es} {K : (RS.tup [] [ds, es]).T → OR} {z : OR} (h : o = some (.tup [], [bx ds p, bx es q])) (h2 : K ((), p, q, ()) = z) : tRes (.tup [] [ds, es]) o K = z := by
  subst h
  simp only [tRes, decR, decBs2]
  exact h2
abbrev st0 : RowT sh22 := (0, [], [], [], [], (-1), (true, []), (true, []), (true, []), (-1), ())
abbrev stRow : List D := [.int .i64 0, .str [], .str [], .str [], .str [], .int .i64 (-1), .sl (.im true) 1 [], .sl (.im true) 3 [], .sl (.im true) 3 [], .int .i64 (-1)]
abbrev rsN (nm : BB) : RowT sh19 := (nm, (.im true, []), (.im true, []), (.im true, []), ())
abbrev rsO (nm : BB) : RowT sh19 := (nm, (.im true, []), (.im true, []), (.own, [stRow]), ())
abbrev rsI (nm : BB) : RowT sh19 := (nm, (.im true, []), (.im true, []), (.im false, [stRow]), ())
def procToks : List (Int × BB) := [(0, [109, 97, 105, 110]), (3, [40]), (3, [41]), (3, [123]), (0, [115, 116, 111, 112]), (3, [125])]
section
variable {m a : Nat} {b : Bool} {L : RR} {e : Int} {rst : RowT sh19} {z : OR} {nm : BB}
theorem cshort (hm : 10 ≤ m) (ht : At L a 0 [115, 116, 111, 112]) {K : Bool × RowT sh11 × RowT sh22 × Unit → OR} (h : K (false, PB b L a e rst, st0, ()) = z) : c83 (T m) (PB b L a e rst) st0 K = z := by
  obtain ⟨m, rfl⟩ : ∃ n, m = n + 1 := ⟨m - 1, by omega⟩
  exact tr_bpp (eqo_ (ctake_no (by omega) ht rfl (bif_f rfl (ctake_no (by omega) ht rfl (bif_f rfl (ctake_no (by omega) ht rfl (bif_f rfl (ctake_no (by omega) ht rfl (bif_f rfl (ctake_no (by omega) ht rfl (bif_f rfl (ctake_no (by omega) ht rfl (bif_f rfl rfl))))))))))))) h
theorem clast (hm : 10 ≤ m) (ha : a < 90000) (ht : At L a 0 [115, 116, 111, 112]) {K : Unit × RowT sh11 × RowT sh22 × Unit → OR} (h : K ((), PB b L (a + 1) e rst, st0, ()) = z) : c84 (T m) (PB b L a e rst) st0 K = z := by
  obtain ⟨m, rfl⟩ : ∃ n, m = n + 1 := ⟨m - 1, by omega⟩
  exact tr_upp (eqy_ (ctake (by omega) (by omega) ht (.inl rfl) (bif_t rfl rfl))) h
theorem cblock (hm : 20 ≤ m) (ha : a < 90000) (ht : At L a 0 [115, 116, 111, 112]) {K : Unit × RowT sh11 × Unit → OR} (h : K ((), PB b L (a + 1) e (rsO nm), ()) = z) : c75 (T m) (PB b L a e (rsN nm)) K = z := by
  obtain ⟨m, rfl⟩ : ∃ n, m = n + 2 := ⟨m - 2, by omega⟩
  refine tr_up (eql_ ?_) h
  rw [lql__0_0e]
  refine cfailed (by omega) (bif_t rfl (tg_im (gd_t rfl ?_)))
  dsimp only
  rw [lql__1_0e]
  refine cshort (rst := rsO nm) (by omega) ht (bif_f rfl (clast (rst := rsO nm) (by omega) ha ht (tg_own ?_)))
  refine qo (b := 0) rfl (gd_t rfl (qo (b := stRow) rfl (gd_t rfl ?_)))
  rfl
theorem cbraced (hm : 30 ≤ m) (ha : a < 80000) (h1 : At L a 3 [123]) (h2 : At L (a + 1) 0 [115, 116, 111, 112]) (h3 : At L (a + 1 + 1) 3 [125]) {K : Int × RowT sh11 × Unit → OR} (h : K (0, PB b L (a + 1 + 1 + 1) e (rsO nm), ()) = z) : c63 (T m) (PB b L a e (rsN nm)) K = z := by
  obtain ⟨m, rfl⟩ : ∃ n, m = n + 2 := ⟨m - 2, by omega⟩
  refine tr_ip (eq1f_ (cneed (by omega) (by omega) h1 (.inr rfl) (tg_im ?_))) h
  exact cblock (nm := nm) (by omega) (by omega) h2 (cneed (by omega) (by omega) h3 (.inr rfl) rfl)
theorem cproc (hm : 60 ≤ m) (ha : a < 70000) (ht : Ats L a procToks) {K : (BB × (Bool × RR) × (Bool × RR) × (Bool × RR) × Unit) × RowT sh11 × Unit → OR}
    (h : K (([109, 97, 105, 110], (true, []), (true, []), (false, [stRow]), ()), PB b L (a + 6) e (rsI [109, 97, 105, 110]), ()) = z) : c30 (T m) (PB b L a e rst) K = z := by
  obtain ⟨m, rfl⟩ : ∃ n, m = n + 2 := ⟨m - 2, by omega⟩
  obtain ⟨t1, t2, t3, t4, t5, t6, _⟩ := ht
  have e3 : T (m + 2) 30 [pE] [bx sh11 (PB b L a e rst)] = some (.agg [sC [109, 97, 105, 110], lC (.im true) 3 [], lC (.im true) 6 [], lC (.im false) 10 [stRow]], [bx sh11 (PB b L (a + 6) e (rsI [109, 97, 105, 110]))]) := by
    refine eqi_ (cname (by omega) (by omega) t1 (by decide) (cneed (rst := rsN [109, 97, 105, 110]) (by omega) (by omega) t2 (.inr rfl) ?_))
    dsimp only
    rw [lqi__0_0e]
    refine cfailed (rst := rsN [109, 97, 105, 110]) (by omega) (bif_t rfl (cis (rst := rsN [109, 97, 105, 110]) (by omega) t3 (.inr rfl) (bif_f rfl ?_)))
    dsimp only
    rw [lqi__3_0e]
    refine cneed (rst := rsN [109, 97, 105, 110]) (by omega) (by omega) t3 (.inr rfl) (cbraced (by omega) (by omega) t4 t5 t6 (tg_im (tg_im (tg_own (gd_t rfl ?_)))))
    rfl
  exact tr_v (v := ([109, 97, 105, 110], (true, []), (true, []), (false, [stRow]), ())) e3 rfl h
def wholeToks (M : Nat) (ps : List PT) (ts : List TN) : List (Int × BB) := (0, [108, 111, 99, 97, 108]) :: (locToks ts ++ (0, [112, 114, 111, 99]) :: (procToks ++ (0, [112, 114, 111, 116, 111, 99, 111, 108]) :: protToks M ps))
abbrev protRow (M : Nat) (ps : List PT) : List D := [.str [112], .sl (.im false) 1 (rolesR M), .sl (.im false) 3 ((ps.map nP).map cP)]
abbrev locRow (ts : List TN) : List D := [.str [122, 122], .sl (.im false) 3 ((ts.map nN).map cN)]
abbrev procRow : List D := [.str [109, 97, 105, 110], .sl (.im true) 3 [], .sl (.im true) 6 [], .sl (.im false) 10 [stRow]]
theorem tnsLen {P : Nat} : ∀ (t : List TN) (i : Nat), (∀ y ∈ t, okN P y) → (tnsToks i t).length ≤ 50 * t.length + 1
  | [], i, _ => by simp [tnsToks]
  | x :: t, i, h => by
    have h1 := tnLen (i := i) (h x (List.mem_cons_self ..))
    have h2 := tnsLen t (i + 1) fun y hy => h y (List.mem_cons_of_mem _ hy)
    simp only [tnsToks, List.length_append, List.length_cons]; omega
theorem whole_prog {M : Nat} {ps : List PT} {ts : List TN} (hP : okPr M ps) (hN : okLo ts) {tx : BB} (hm : 200 ≤ m) (ht : Ats L 0 (wholeToks M ps ts)) (hl : L.length = (wholeToks M ps ts).length)
    (hT : ∀ K : ((Bool × RR) × Int × Int × Unit) × Unit → OR, c25 (T m) tx K = K (((false, L), 0, 0, ()), ())) :
    T (m + 1) 10 [.one (sC tx)] [] = some (.tup [.agg [lC (.im false) 3 [protRow M ps], lC (.im false) 2 [locRow ts], lC (.im false) 4 [procRow]], .one (iC 0), .one (iC 0)], []) := by
  obtain ⟨m, rfl⟩ : ∃ n, m = n + 4 := ⟨m - 4, by omega⟩
  have hts := tnsLen ts 0 hN.2.2
  have hlt := hN.2.1
  have hll : (locToks ts).length ≤ 400 := by simp only [locToks, List.length_cons]; omega
  obtain ⟨t1, t2⟩ := ht
  obtain ⟨t2, t3, t4⟩ := Ats_app.1 t2
  obtain ⟨t4, t5, t6⟩ := Ats_app.1 t4
  refine eq9_ ((hT _).trans (bif_f rfl ?_))
  dsimp only
  rw [lq9__0_0e]
  refine cmore (a := 0) (b := false) (rst := rsN []) (by omega) t1 (bif_t rfl (ctake_no (by omega) t1 rfl (bif_f rfl (ctake (by omega) (by omega) t1 (.inl rfl) (bif_t rfl (tg_im (clocal (by omega) (by omega) hN t2 (gd_t rfl ?_))))))))
  dsimp only
  rw [lq9__0_0e]
  refine cmore (rst := rsN []) (by omega) t3 (bif_t rfl (ctake_no (by omega) t3 rfl (bif_f rfl (ctake_no (by omega) t3 rfl (bif_f rfl (ctake (by omega) (by omega) t3 (.inl rfl) (bif_t rfl (tg_im (cproc (by omega) (by omega) t4 (gd_t rfl ?_))))))))))
  dsimp only
  rw [lq9__0_0e]
  refine cmore (rst := rsI [109, 97, 105, 110]) (by omega) t5 (bif_t rfl (ctake (by omega) (by simp only [procToks, List.length_cons, List.length_nil]; omega) t5 (.inl rfl) (bif_t rfl (tg_im (cprotocol (by omega) (by simp only [procToks, List.length_cons, List.length_nil]; omega) hP t6 (gd_t rfl ?_))))))
  dsimp only
  rw [lq9__0_0e]
  refine cmore_no (rst := rsI [109, 97, 105, 110]) (by omega) ?_ (bif_f rfl (cfailed (rst := rsI [109, 97, 105, 110]) (by omega) (bif_f rfl ?_)))
  · rw [hl]
    simp only [wholeToks, List.length_cons, List.length_append]; omega
  · exact tg_own (tg_own (tg_own (gd_t rfl (gd_t rfl (gd_t rfl (gd_t rfl (gd_t rfl (gd_t rfl rfl))))))))
end
end
section
open Go Go.Abs
instance decOk : ∀ t : List It, Decidable (okI t)
  | [] => .isTrue trivial
  | .wd c w :: t => by have := decOk t; unfold okI; infer_instance
  | .nu k :: t => by have := decOk t; unfold okI; infer_instance
  | .sg c :: t => by have := decOk t; unfold okI; infer_instance
  | .ar :: t => by have := decOk t; unfold okI; infer_instance
  | .bl c :: t => by have := decOk t; unfold okI; infer_instance
def wdI : BB → It
  | [] => .bl 32
  | c :: w => .wd c w
theorem wdI_b {x : BB} (h : x ≠ []) : (wdI x).b = x := by
  cases x with
  | nil => exact absurd rfl h
  | cons => rfl
theorem wdI_tk {x : BB} (h : x ≠ []) (t : List It) : tks (wdI x :: t) = (0, x) :: tks t := by
  cases x with
  | nil => exact absurd rfl h
  | cons => rfl
theorem ok_wd {x : BB} (h : x ∈ nms) {t : List It} (hn : nw t = true) (ho : okI t) : okI (wdI x :: t) := by
  simp only [nms, List.mem_cons, List.not_mem_nil, or_false] at h
  rcases h with rfl | rfl | rfl | rfl | rfl | rfl | rfl | rfl | rfl | rfl | rfl | rfl | rfl <;> exact ⟨by decide, by decide, by decide, hn, ho⟩
theorem nms_ne {x : BB} (h : x ∈ nms) : x ≠ [] := by
  intro e; subst e
  revert h; decide
def carIt (k : Int) (x : BB) : List It :=
  if k = 0 then [.wd 117 [110, 105, 116]] else if k = 1 then [.wd 105 [110, 116]] else if k = 2 then [.wd 98 [111, 111, 108]] else if k = 3 then [.wd 116 [101, 120, 116]]
  else if k = 4 then [.wd 108 [105, 115, 116]] else if x = [122, 122] then [.wd 99 [104, 97, 110], .bl 32, wdI x] else [.wd 99 [104, 97, 110], .bl 32, wdI (x.take 1), .sg 46, wdI (x.drop 2)]
theorem car_fl {k : Int} {x : BB} (h : (k, x) ∈ cars) : fl (carIt k x) = carT k x ∧ tks (carIt k x) = carToks k x ∧ okI (carIt k x) := by
  simp only [cars, List.mem_cons, List.not_mem_nil, or_false, Prod.mk.injEq] at h
  rcases h with ⟨rfl, rfl⟩ | ⟨rfl, rfl⟩ | ⟨rfl, rfl⟩ | ⟨rfl, rfl⟩ | ⟨rfl, rfl⟩ | ⟨rfl, rfl⟩ | ⟨rfl, rfl⟩ | ⟨rfl, rfl⟩ <;> exact ⟨by decide, by decide, by decide⟩
def armIt (x : AM) : List It := wdI x.lab :: .sg 40 :: (carIt x.kd x.nm ++ [.sg 41, .bl 32, .nu x.nx])
def sepIt : List AM → List It
  | [] => [.bl 32, .sg 125]
  | x :: t => .sg 44 :: .bl 32 :: (armIt x ++ sepIt t)
def armsIt : List AM → List It
  | [] => []
  | x :: t => .bl 32 :: .sg 123 :: .bl 32 :: (armIt x ++ sepIt t)
def ptIt (i : Nat) (p : PT) : List It := .bl 32 :: .bl 32 :: .nu i :: .sg 58 :: .bl 32 :: (if p.ms = [] then [.wd 101 [110, 100], .bl 10] else wdI p.fr :: .bl 32 :: .ar :: .bl 32 :: wdI p.to :: (armsIt p.ms ++ [.bl 10]))
def ptsIt : Nat → List PT → List It
  | _, [] => [.sg 125, .bl 10]
  | i, p :: t => ptIt i p ++ ptsIt (i + 1) t
def rsIt : Nat → Nat → List It
  | _, 0 => [.bl 32, .sg 123, .bl 10]
  | k, n + 1 => .sg 44 :: .bl 32 :: wdI (roleAt k) :: rsIt (k + 1) n
def protIt (M : Nat) (ps : List PT) : List It := .wd 112 [114, 111, 116, 111, 99, 111, 108] :: .bl 32 :: .wd 112 [] :: .bl 32 :: .wd 114 [111, 108, 101, 115] :: .bl 32 :: wdI (roleAt 0) :: (rsIt 1 (M - 1) ++ ptsIt 0 ps)
def tnIt (i : Nat) (p : TN) : List It := .bl 32 :: .bl 32 :: .nu i :: .sg 58 :: .bl 32 :: (if p.ms = [] then [.wd 101 [110, 100], .bl 10] else (if p.kd = 1 then .wd 116 [111] else .wd 102 [114, 111, 109]) :: .bl 32 :: wdI p.pr :: (armsIt p.ms ++ [.bl 10]))
def tnsIt : Nat → List TN → List It
  | _, [] => [.sg 125, .bl 10]
  | i, p :: t => tnIt i p ++ tnsIt (i + 1) t
def wholeT (M : Nat) (ps : List PT) (ts : List TN) : List It := .bl 32 :: .wd 122 [122] :: .bl 32 :: .sg 123 :: .bl 10 :: (tnsIt 0 ts ++ .wd 112 [114, 111, 99] :: .bl 32 :: .wd 109 [97, 105, 110] :: .sg 40 :: .sg 41 :: .bl 32 :: .sg 123 :: .bl 32 :: .wd 115 [116, 111, 112] :: .bl 32 :: .sg 125 :: protIt M ps)
theorem arm_fl {P : Nat} {x : AM} (h : okM P x) : fl (armIt x) = armTx x ∧ tks (armIt x) = armToks x := by
  obtain ⟨c1, c2, _⟩ := car_fl h.2.1
  have hl := nms_ne (lab_nm h.1)
  constructor
  · show (wdI x.lab).b ++ ([40] ++ fl (carIt x.kd x.nm ++ [.sg 41, .bl 32, .nu x.nx])) = _
    rw [wdI_b hl, fl_app, c1]
    simp [armTx, fl, It.b]
  · show tks (wdI x.lab :: .sg 40 :: (carIt x.kd x.nm ++ [.sg 41, .bl 32, .nu x.nx])) = _
    rw [wdI_tk hl]
    show (0, x.lab) :: (3, [40]) :: tks (carIt x.kd x.nm ++ [.sg 41, .bl 32, .nu x.nx]) = _
    rw [tks_app, c2]
    rfl
theorem sep_fl {P : Nat} : ∀ (t : List AM), (∀ y ∈ t, okM P y) → fl (sepIt t) = joinTl (t.map armTx) ++ [32, 125] ∧ tks (sepIt t) = sepToks t
  | [], _ => ⟨rfl, rfl⟩
  | x :: t, h => by
    obtain ⟨a1, a2⟩ := arm_fl (h x (List.mem_cons_self ..))
    obtain ⟨b1, b2⟩ := sep_fl t fun y hy => h y (List.mem_cons_of_mem _ hy)
    constructor
    · show [44] ++ ([32] ++ fl (armIt x ++ sepIt t)) = _
      rw [fl_app, a1, b1]
      simp [joinTl]
    · show (3, [44]) :: tks (armIt x ++ sepIt t) = _
      rw [tks_app, a2, b2]; rfl
theorem arms_fl {P : Nat} {l : List AM} (h : okMs P l) : fl (armsIt l) = armsTx l ∧ tks (armsIt l) = armsToks l := by
  cases l with
  | nil => exact absurd rfl (okMs_ne h)
  | cons x t =>
    obtain ⟨a1, a2⟩ := arm_fl (h.2.2.2 x (List.mem_cons_self ..))
    obtain ⟨b1, b2⟩ := sep_fl t fun y hy => h.2.2.2 y (List.mem_cons_of_mem _ hy)
    constructor
    · show [32] ++ ([123] ++ ([32] ++ fl (armIt x ++ sepIt t))) = _
      rw [fl_app, a1, b1]
      simp [armsTx, joinS]
    · show (3, [123]) :: tks (armIt x ++ sepIt t) = _
      rw [tks_app, a2, b2]; rfl
theorem ok_arm {P : Nat} {x : AM} (h : okM P x) (hP : P ≤ 10) {r : List It} (hr : okI r) (hn : nw r = true) : okI (armIt x ++ r) := by
  obtain ⟨_, _, c3⟩ := car_fl h.2.1
  have : armIt x ++ r = wdI x.lab :: .sg 40 :: (carIt x.kd x.nm ++ (.sg 41 :: .bl 32 :: .nu x.nx :: r)) := by simp [armIt]
  rw [this]
  exact ok_wd (lab_nm h.1) rfl ⟨by decide, okI_app c3 ⟨by decide, .inl rfl, by have := h.2.2; omega, hn, hr⟩ rfl⟩
theorem nw_sep (t : List AM) (r : List It) : nw (sepIt t ++ r) = true := by cases t <;> rfl
theorem ok_sep {P : Nat} (hP : P ≤ 10) {r : List It} (hr : okI r) : ∀ (t : List AM), (∀ y ∈ t, okM P y) → okI (sepIt t ++ r)
  | [], _ => ⟨.inl rfl, by decide, hr⟩
  | x :: t, h => by
    have ih := ok_sep hP hr t fun y hy => h y (List.mem_cons_of_mem _ hy)
    have : sepIt (x :: t) ++ r = .sg 44 :: .bl 32 :: (armIt x ++ (sepIt t ++ r)) := by simp [sepIt]
    rw [this]
    exact ⟨by decide, .inl rfl, ok_arm (h x (List.mem_cons_self ..)) hP ih (nw_sep t r)⟩
theorem ok_arms {P : Nat} (hP : P ≤ 10) {l : List AM} (h : okMs P l) {r : List It} (hr : okI r) : okI (armsIt l ++ r) ∧ nw (armsIt l ++ r) = true := by
  cases l with
  | nil => exact absurd rfl (okMs_ne h)
  | cons x t =>
    have : armsIt (x :: t) ++ r = .bl 32 :: .sg 123 :: .bl 32 :: (armIt x ++ (sepIt t ++ r)) := by simp [armsIt]
    rw [this]
    exact ⟨⟨.inl rfl, by decide, .inl rfl, ok_arm (h.2.2.2 x (List.mem_cons_self ..)) hP (ok_sep hP hr t fun y hy => h.2.2.2 y (List.mem_cons_of_mem _ hy)) (nw_sep t r)⟩, rfl⟩
theorem pt_fl {P many i : Nat} {p : PT} (h : okP P many p) (h4 : many ≤ 4) : fl (ptIt i p) = ptTx i p ∧ tks (ptIt i p) = ptToks i p := by
  rcases h with ⟨p1, p2, p3⟩ | ⟨k1, k2, q1, q2, q3, p1, p2, p3⟩
  · constructor
    · simp only [ptIt, ptTx, p3, if_true]; rfl
    · simp only [ptIt, ptToks, p3, if_true]; rfl
  · have hne := okMs_ne p3
    obtain ⟨a1, a2⟩ := arms_fl p3
    have n1 := nms_ne (p1 ▸ role_nm (k := k1) (by omega) : p.fr ∈ nms)
    have n2 := nms_ne (p2 ▸ role_nm (k := k2) (by omega) : p.to ∈ nms)
    constructor
    · simp only [ptIt, ptTx, hne, if_false, fl, fl_app, wdI_b n1, wdI_b n2, a1]
      simp [It.b]
    · simp only [ptIt, ptToks, hne, if_false]
      simp only [tks]
      rw [wdI_tk n1]
      simp only [tks]
      rw [wdI_tk n2, tks_app, a2]
      simp [tks]
theorem ok_pt {P many i : Nat} {p : PT} (h : okP P many p) (h4 : many ≤ 4) (hP : P ≤ 10) (hi : i < 10) {r : List It} (hr : okI r) : okI (ptIt i p ++ r) := by
  rcases h with ⟨p1, p2, p3⟩ | ⟨k1, k2, q1, q2, q3, p1, p2, p3⟩
  · have : ptIt i p ++ r = .bl 32 :: .bl 32 :: .nu i :: .sg 58 :: .bl 32 :: .wd 101 [110, 100] :: .bl 10 :: r := by simp [ptIt, p3]
    rw [this]
    exact ⟨.inl rfl, .inl rfl, hi, rfl, by decide, .inl rfl, by decide, by decide, by decide, rfl, .inr rfl, hr⟩
  · have hne := okMs_ne p3
    have n1 : p.fr ∈ nms := p1 ▸ role_nm (by omega)
    have n2 : p.to ∈ nms := p2 ▸ role_nm (by omega)
    have : ptIt i p ++ r = .bl 32 :: .bl 32 :: .nu i :: .sg 58 :: .bl 32 :: wdI p.fr :: .bl 32 :: .ar :: .bl 32 :: wdI p.to :: (armsIt p.ms ++ (.bl 10 :: r)) := by simp [ptIt, hne]
    rw [this]
    obtain ⟨o1, o2⟩ := ok_arms hP p3 (r := .bl 10 :: r) ⟨.inr rfl, hr⟩
    exact ⟨.inl rfl, .inl rfl, hi, rfl, by decide, .inl rfl, ok_wd n1 rfl ⟨.inl rfl, .inl rfl, ok_wd n2 o2 o1⟩⟩
theorem pts_fl {P many : Nat} (h4 : many ≤ 4) : ∀ (t : List PT) (i : Nat), (∀ y ∈ t, okP P many y) → fl (ptsIt i t) = ptsTx i t ∧ tks (ptsIt i t) = ptsToks i t
  | [], i, _ => ⟨rfl, rfl⟩
  | x :: t, i, h => by
    obtain ⟨a1, a2⟩ := pt_fl (i := i) (h x (List.mem_cons_self ..)) h4
    obtain ⟨b1, b2⟩ := pts_fl h4 t (i + 1) fun y hy => h y (List.mem_cons_of_mem _ hy)
    exact ⟨by simp only [ptsIt, ptsTx, fl_app, a1, b1], by simp only [ptsIt, ptsToks, tks_app, a2, b2]⟩
theorem ok_pts {P many : Nat} (h4 : many ≤ 4) (hP : P ≤ 10) {r : List It} (hr : okI r) : ∀ (t : List PT) (i : Nat), i + t.length ≤ 10 → (∀ y ∈ t, okP P many y) → okI (ptsIt i t ++ r)
  | [], i, _, _ => ⟨by decide, .inr rfl, hr⟩
  | x :: t, i, hi, h => by
    simp only [List.length_cons] at hi
    have ih := ok_pts h4 hP hr t (i + 1) (by omega) fun y hy => h y (List.mem_cons_of_mem _ hy)
    rw [ptsIt, List.append_assoc]
    exact ok_pt (h x (List.mem_cons_self ..)) h4 hP (by omega) ih
theorem tn_fl {P i : Nat} {p : TN} (h : okN P p) : fl (tnIt i p) = tnTx i p ∧ tks (tnIt i p) = tnToks i p := by
  rcases h with ⟨p1, p2, p3⟩ | ⟨p1, ⟨k, p2, p3⟩, p4⟩
  · constructor
    · simp only [tnIt, tnTx, p3, if_true]; rfl
    · simp only [tnIt, tnToks, p3, if_true]; rfl
  · have hne := okMs_ne p4
    obtain ⟨a1, a2⟩ := arms_fl p4
    have n1 := nms_ne (p3 ▸ role_nm (k := k) (by omega) : p.pr ∈ nms)
    rcases p1 with p1 | p1
    · constructor
      · simp only [tnIt, tnTx, hne, if_false, p1, if_true, fl, fl_app, wdI_b n1, a1]
        simp [It.b]
      · simp only [tnIt, tnToks, hne, if_false, p1, if_true]
        simp only [tks]
        rw [wdI_tk n1, tks_app, a2]
        simp [tks]
    · have h21 : ¬ ((2 : Int) = 1) := by decide
      constructor
      · simp only [tnIt, tnTx, hne, if_false, p1, h21, fl, fl_app, wdI_b n1, a1]
        simp [It.b]
      · simp only [tnIt, tnToks, hne, if_false, p1, h21]
        simp only [tks]
        rw [wdI_tk n1, tks_app, a2]
        simp [tks]
theorem ok_tn {P i : Nat} {p : TN} (h : okN P p) (hP : P ≤ 10) (hi : i < 10) {r : List It} (hr : okI r) : okI (tnIt i p ++ r) := by
  rcases h with ⟨p1, p2, p3⟩ | ⟨p1, ⟨k, p2, p3⟩, p4⟩
  · have : tnIt i p ++ r = .bl 32 :: .bl 32 :: .nu i :: .sg 58 :: .bl 32 :: .wd 101 [110, 100] :: .bl 10 :: r := by simp [tnIt, p3]
    rw [this]
    exact ⟨.inl rfl, .inl rfl, hi, rfl, by decide, .inl rfl, by decide, by decide, by decide, rfl, .inr rfl, hr⟩
  · have hne := okMs_ne p4
    have n1 : p.pr ∈ nms := p3 ▸ role_nm (by omega)
    obtain ⟨o1, o2⟩ := ok_arms hP p4 (r := .bl 10 :: r) ⟨.inr rfl, hr⟩
    have : tnIt i p ++ r = .bl 32 :: .bl 32 :: .nu i :: .sg 58 :: .bl 32 :: (if p.kd = 1 then .wd 116 [111] else .wd 102 [114, 111, 109]) :: .bl 32 :: wdI p.pr :: (armsIt p.ms ++ (.bl 10 :: r)) := by simp [tnIt, hne]
    rw [this]
    rcases p1 with p1 | p1
    · rw [if_pos p1]
      exact ⟨.inl rfl, .inl rfl, hi, rfl, by decide, .inl rfl, by decide, by decide, by decide, rfl, .inl rfl, ok_wd n1 o2 o1⟩
    · rw [if_neg (by omega)]
      exact ⟨.inl rfl, .inl rfl, hi, rfl, by decide, .inl rfl, by decide, by decide, by decide, rfl, .inl rfl, ok_wd n1 o2 o1⟩
theorem tns_fl {P : Nat} : ∀ (t : List TN) (i : Nat), (∀ y ∈ t, okN P y) → fl (tnsIt i t) = tnsTx i t ∧ tks (tnsIt i t) = tnsToks i t
  | [], i, _ => ⟨rfl, rfl⟩
  | x :: t, i, h => by
    obtain ⟨a1, a2⟩ := tn_fl (i := i) (h x (List.mem_cons_self ..))
    obtain ⟨b1, b2⟩ := tns_fl t (i + 1) fun y hy => h y (List.mem_cons_of_mem _ hy)
    exact ⟨by simp only [tnsIt, tnsTx, fl_app, a1, b1], by simp only [tnsIt, tnsToks, tks_app, a2, b2]⟩
theorem ok_tns {P : Nat} (hP : P ≤ 10) {r : List It} (hr : okI r) : ∀ (t : List TN) (i : Nat), i + t.length ≤ 10 → (∀ y ∈ t, okN P y) → okI (tnsIt i t ++ r)
  | [], i, _, _ => ⟨by decide, .inr rfl, hr⟩
  | x :: t, i, hi, h => by
    simp only [List.length_cons] at hi
    have ih := ok_tns hP hr t (i + 1) (by omega) fun y hy => h y (List.mem_cons_of_mem _ hy)
    rw [tnsIt, List.append_assoc]
    exact ok_tn (h x (List.mem_cons_self ..)) hP (by omega) ih
theorem rs_ok {M : Nat} (h2 : 2 ≤ M) (h4 : M ≤ 4) {r : List It} (hr : okI r) : okI (wdI (roleAt 0) :: (rsIt 1 (M - 1) ++ r)) ∧ fl (wdI (roleAt 0) :: rsIt 1 (M - 1)) = joinS ((List.range M).map roleAt) ++ [32, 123, 10] ∧ tks (wdI (roleAt 0) :: rsIt 1 (M - 1)) = (0, roleAt 0) :: rsToks 1 (M - 1) := by
  have : M = 2 ∨ M = 3 ∨ M = 4 := by omega
  have d : ∀ k, k < 4 → ∀ t : List It, nw t = true → okI t → okI (wdI (roleAt k) :: t) := fun k hk t hn ho => ok_wd (role_nm hk) hn ho
  have e0 : okI ([.bl 32, .sg 123, .bl 10] ++ r) := ⟨.inl rfl, by decide, .inr rfl, hr⟩
  rcases this with rfl | rfl | rfl
  · exact ⟨d 0 (by omega) _ rfl ⟨by decide, .inl rfl, d 1 (by omega) _ rfl e0⟩, by decide, by decide⟩
  · exact ⟨d 0 (by omega) _ rfl ⟨by decide, .inl rfl, d 1 (by omega) _ rfl ⟨by decide, .inl rfl, d 2 (by omega) _ rfl e0⟩⟩, by decide, by decide⟩
  · exact ⟨d 0 (by omega) _ rfl ⟨by decide, .inl rfl, d 1 (by omega) _ rfl ⟨by decide, .inl rfl, d 2 (by omega) _ rfl ⟨by decide, .inl rfl, d 3 (by omega) _ rfl e0⟩⟩⟩, by decide, by decide⟩
theorem prot_fl {M : Nat} {ps : List PT} (h : okPr M ps) : fl (protIt M ps) = protTx M ps ∧ tks (protIt M ps) = (0, [112, 114, 111, 116, 111, 99, 111, 108]) :: protToks M ps ∧ okI (protIt M ps) := by
  obtain ⟨h2, h4, h1, h8, hp⟩ := h
  obtain ⟨a1, a2⟩ := pts_fl h4 ps 0 hp
  have a3 := ok_pts h4 (P := ps.length) (by omega) (r := []) trivial ps 0 (by omega) hp
  rw [List.append_nil] at a3
  obtain ⟨b1, b2, b3⟩ := rs_ok h2 h4 a3
  have e : protIt M ps = .wd 112 [114, 111, 116, 111, 99, 111, 108] :: .bl 32 :: .wd 112 [] :: .bl 32 :: .wd 114 [111, 108, 101, 115] :: .bl 32 :: ((wdI (roleAt 0) :: rsIt 1 (M - 1)) ++ ptsIt 0 ps) := rfl
  refine ⟨?_, ?_, ?_⟩
  · rw [e]
    simp only [fl, fl_app]
    rw [show (wdI (roleAt 0)).b ++ fl (rsIt 1 (M - 1)) = joinS ((List.range M).map roleAt) ++ [32, 123, 10] from b2, a1]
    simp [protTx, It.b]
  · rw [e]
    simp only [tks]
    rw [tks_app, b3, a2]; rfl
  · rw [e]
    exact ⟨by decide, by decide, by decide, rfl, .inl rfl, by decide, by decide, by decide, rfl, .inl rfl, by decide, by decide, by decide, rfl, .inl rfl, b1⟩
theorem whole_fl {M : Nat} {ps : List PT} {ts : List TN} (hP : okPr M ps) (hN : okLo ts) : fl (.wd 108 [111, 99, 97, 108] :: wholeT M ps ts) = locTx ts ++ [112, 114, 111, 99, 32, 109, 97, 105, 110, 40, 41, 32, 123, 32, 115, 116, 111, 112, 32, 125] ++ protTx M ps ∧
    tks (.wd 108 [111, 99, 97, 108] :: wholeT M ps ts) = wholeToks M ps ts ∧ okI (.wd 108 [111, 99, 97, 108] :: wholeT M ps ts) := by
  obtain ⟨p1, p2, p3⟩ := prot_fl hP
  obtain ⟨h1, h8, hp⟩ := hN
  obtain ⟨a1, a2⟩ := tns_fl ts 0 hp
  refine ⟨?_, ?_, ?_⟩
  · simp only [wholeT, fl, fl_app, a1, p1]
    simp [locTx, It.b]
  · simp only [wholeT, tks, tks_app, a2, p2]
    simp [wholeToks, locToks, procToks]
  · refine ⟨by decide, by decide, by decide, rfl, .inl rfl, by decide, by decide, by decide, rfl, .inl rfl, by decide, .inr rfl, ?_⟩
    refine ok_tns (P := ts.length) (by omega) ?_ ts 0 (by omega) hp
    exact ⟨by decide, by decide, by decide, rfl, .inl rfl, by decide, by decide, by decide, rfl, by decide, by decide, .inl rfl, by decide, .inl rfl, by decide, by decide, by decide, rfl, .inl rfl, by decide, p3⟩
end
section
open Go Go.Abs
section
variable {m : Nat} {z : OR} {b b2 : Bool}
theorem bne_same {n : Int} : (n != n) = false := by simp
theorem same_arms_loop (q : Nat) (l : List AM) (hl : l.length ≤ 1000) : ∀ (k i : Nat), l.length - i < k → i ≤ l.length →
    lqt__0_0 (T m) q k b (l.map cM) b2 (l.map cM) (i : Int) = rT
  | 0, i, h, _ => by omega
  | k + 1, i, h, hi => by
    rw [lqt__0_0e]
    by_cases hlt : i < l.length
    · have hg : l[i]? = some l[i] := List.getElem?_eq_getElem hlt
      have ih := same_arms_loop q l hl k (i + 1) (by omega) (by omega)
      refine bif_t (decide_eq_true (by rw [natI_eq', List.length_map]; omega)) (iR_of (v := (l[i].lab, l[i].kd, l[i].nm, (l[i].nx : Int), ())) rfl (get_cM hg) (by simp [cM]) rfl (iR_of (v := (l[i].lab, l[i].kd, l[i].nm, (l[i].nx : Int), ())) rfl (get_cM hg) (by simp [cM]) rfl (bif_f ?_ ?_)))
      · simp
      · rw [show w64 ((i : Int) + 1) = ((i + 1 : Nat) : Int) from w64_n (by omega) (by omega)]
        exact ih
    · exact bif_f (decide_eq_false (by rw [natI_eq', List.length_map]; omega)) rfl
theorem csame_arms (hm : 20 ≤ m) {l : List AM} (hl : l.length ≤ 10) {K : Bool × Unit → OR} (h : K (true, ()) = z) : c39 (T m) b (l.map cM) b2 (l.map cM) K = z := by
  obtain ⟨m, rfl⟩ : ∃ n, m = n + 1 := ⟨m - 1, by omega⟩
  exact tr_b (eqt_ (bif_f bne_same (same_arms_loop m l (by omega) m 0 (by omega) (by omega)))) h
theorem same_names_loop (q M : Nat) (hM : M ≤ 100) : ∀ (k i : Nat), M - i < k → i ≤ M →
    lqs__0_0 (T m) q k b (rolesR M) b2 (rolesR M) (i : Int) = rT
  | 0, i, h, _ => by omega
  | k + 1, i, h, hi => by
    rw [lqs__0_0e]
    by_cases hlt : i < M
    · have ih := same_names_loop q M hM k (i + 1) (by omega) (by omega)
      refine bif_t (decide_eq_true (by rw [natI_eq', rolesR_len]; omega)) (iR_of (v := (roleAt i, ())) rfl (rolesR_get hlt) (by simp) rfl (iR_of (v := (roleAt i, ())) rfl (rolesR_get hlt) (by simp) rfl (bif_f ?_ ?_)))
      · simp
      · rw [show w64 ((i : Int) + 1) = ((i + 1 : Nat) : Int) from w64_n (by omega) (by omega)]
        exact ih
    · exact bif_f (decide_eq_false (by rw [natI_eq', rolesR_len]; omega)) rfl
theorem csame_names (hm : 20 ≤ m) {M : Nat} (hM : M ≤ 10) {K : Bool × Unit → OR} (h : K (true, ()) = z) : c38 (T m) b (rolesR M) b2 (rolesR M) K = z := by
  obtain ⟨m, rfl⟩ : ∃ n, m = n + 1 := ⟨m - 1, by omega⟩
  exact tr_b (eqs_ (bif_f bne_same (same_names_loop m M (by omega) m 0 (by omega) (by omega)))) h
theorem nN_same {P : Nat} {p : TN} (h : okN P p) : (nN p).kd = p.kd ∧ (nN p).pr = p.pr ∧ (nN p).ms = p.ms := by
  rcases h with ⟨p1, p2, p3⟩ | ⟨_, _, p4⟩
  · simp [nN, p1, p2, p3]
  · simp [nN, okMs_ne p4]
theorem nP_same {P many : Nat} {p : PT} (h : okP P many p) : (nP p).fr = p.fr ∧ (nP p).to = p.to ∧ (nP p).ms = p.ms := by
  rcases h with ⟨p1, p2, p3⟩ | ⟨_, _, _, _, _, _, _, p4⟩
  · simp [nP, p1, p2, p3]
  · simp [nP, okMs_ne p4]
theorem ms_len {P : Nat} {p : TN} (h : okN P p) : p.ms.length ≤ 10 := by
  rcases h with ⟨p1, p2, p3⟩ | ⟨_, _, p4⟩
  · simp [p3]
  · have := p4.2.1; omega
theorem mp_len {P many : Nat} {p : PT} (h : okP P many p) : p.ms.length ≤ 10 := by
  rcases h with ⟨p1, p2, p3⟩ | ⟨_, _, _, _, _, _, _, p4⟩
  · simp [p3]
  · have := p4.2.1; omega
theorem same_turns_loop (q : Nat) (hm : 30 ≤ m) {P : Nat} (l : List TN) (hl : l.length ≤ 1000) (hok : ∀ p ∈ l, okN P p) : ∀ (k i : Nat), l.length - i < k → i ≤ l.length →
    lqr__0_0 (T m) q k b ((l.map nN).map cN) b2 (l.map cN) (i : Int) = rT
  | 0, i, h, _ => by omega
  | k + 1, i, h, hi => by
    rw [lqr__0_0e]
    by_cases hlt : i < l.length
    · have hg : (l.map cN)[i]? = some (cN l[i]) := get_cN (List.getElem?_eq_getElem hlt)
      have hg2 : ((l.map nN).map cN)[i]? = some (cN (nN l[i])) := get_cN (by rw [List.getElem?_map, List.getElem?_eq_getElem hlt]; rfl)
      have hx := hok l[i] (List.getElem_mem hlt)
      obtain ⟨s1, s2, s3⟩ := nN_same hx
      have ih := same_turns_loop q hm l hl hok k (i + 1) (by omega) (by omega)
      refine bif_t (decide_eq_true (by rw [natI_eq', List.length_map, List.length_map]; omega)) (iR_of (v := ((nN l[i]).kd, ())) rfl hg2 (by simp [cN]) rfl (iR_of (v := (l[i].kd, ())) rfl hg (by simp [cN]) rfl (bif_f ?_ ?_)))
      · rw [s1]; exact bne_same
      refine iR_of (v := ((nN l[i]).pr, ())) rfl hg2 (by simp [cN]) rfl (iR_of (v := (l[i].pr, ())) rfl hg (by simp [cN]) rfl (bif_f ?_ ?_))
      · rw [s2]; simp
      refine iR_of (v := (((nN l[i]).t, (nN l[i]).ms.map cM), ())) rfl hg2 (by simp [cN]) (by simp [cN, decRow, decD]) (iR_of (v := ((l[i].t, l[i].ms.map cM), ())) rfl hg (by simp [cN]) (by simp [cN, decRow, decD]) ?_)
      dsimp only
      rw [s3]
      refine csame_arms (by omega) (ms_len hx) (bif_f rfl ?_)
      rw [show w64 ((i : Int) + 1) = ((i + 1 : Nat) : Int) from w64_n (by omega) (by omega)]
      exact ih
    · exact bif_f (decide_eq_false (by rw [natI_eq', List.length_map, List.length_map]; omega)) rfl
theorem csame_turns (hm : 40 ≤ m) {P : Nat} {l : List TN} (hl : l.length ≤ 10) (hok : ∀ p ∈ l, okN P p) {K : Bool × Unit → OR} (h : K (true, ()) = z) : c14 (T m) b ((l.map nN).map cN) b2 (l.map cN) K = z := by
  obtain ⟨m, rfl⟩ : ∃ n, m = n + 1 := ⟨m - 1, by omega⟩
  refine tr_b (eqr_ (bif_f ?_ (same_turns_loop m (by omega) l (by omega) hok m 0 (by omega) (by omega)))) h
  rw [List.length_map, List.length_map, List.length_map]; exact bne_same
theorem same_pts_loop (q : Nat) (hm : 30 ≤ m) {P many : Nat} (na nb : BB) (ra rb : Tag × RR) (l : List PT) (hl : l.length ≤ 1000) (hok : ∀ p ∈ l, okP P many p) : ∀ (k i : Nat), l.length - i < k → i ≤ l.length →
    lqg__0_0 (T m) q k (na, ra, (.im b, (l.map nP).map cP), ()) (nb, rb, (.im b2, l.map cP), ()) (i : Int) = rT
  | 0, i, h, _ => by omega
  | k + 1, i, h, hi => by
    rw [lqg__0_0e]
    by_cases hlt : i < l.length
    · have hg : (l.map cP)[i]? = some (cP l[i]) := get_cP (List.getElem?_eq_getElem hlt)
      have hg2 : ((l.map nP).map cP)[i]? = some (cP (nP l[i])) := get_cP (by rw [List.getElem?_map, List.getElem?_eq_getElem hlt]; rfl)
      have hx := hok l[i] (List.getElem_mem hlt)
      obtain ⟨s1, s2, s3⟩ := nP_same hx
      have ih := same_pts_loop q hm na nb ra rb l hl hok k (i + 1) (by omega) (by omega)
      refine tg_im (bif_t (decide_eq_true (by dsimp only; rw [natI_eq', List.length_map, List.length_map]; omega)) (iR_of (v := ((nP l[i]).fr, ())) rfl hg2 (by simp [cP]) rfl (tg_im (iR_of (v := (l[i].fr, ())) rfl hg (by simp [cP]) rfl (bif_f ?_ ?_)))))
      · rw [s1]; simp
      refine iR_of (v := ((nP l[i]).to, ())) rfl hg2 (by simp [cP]) rfl (iR_of (v := (l[i].to, ())) rfl hg (by simp [cP]) rfl (bif_f ?_ ?_))
      · rw [s2]; simp
      refine iR_of (v := (((nP l[i]).t, (nP l[i]).ms.map cM), ())) rfl hg2 (by simp [cP]) (by simp [cP, decRow, decD]) (iR_of (v := ((l[i].t, l[i].ms.map cM), ())) rfl hg (by simp [cP]) (by simp [cP, decRow, decD]) ?_)
      dsimp only
      rw [s3]
      refine csame_arms (by omega) (mp_len hx) (bif_f rfl ?_)
      rw [show w64 ((i : Int) + 1) = ((i + 1 : Nat) : Int) from w64_n (by omega) (by omega)]
      exact ih
    · exact tg_im (bif_f (decide_eq_false (by dsimp only; rw [natI_eq', List.length_map, List.length_map]; omega)) rfl)
theorem csame_prot (hm : 50 ≤ m) {b3 b4 : Bool} {M : Nat} {l : List PT} (hok : okPr M l) {K : Bool × Unit → OR} (h : K (true, ()) = z) : c13 (T m) [112] b (rolesR M) b2 ((l.map nP).map cP) [112] b3 (rolesR M) b4 (l.map cP) K = z := by
  obtain ⟨m, rfl⟩ : ∃ n, m = n + 2 := ⟨m - 2, by omega⟩
  obtain ⟨h2, h4, h1, h8, hp⟩ := hok
  refine tr_b (eqg_ (bif_f rfl (csame_names (by omega) (by omega) (bif_f rfl (bif_f ?_ ?_))))) h
  · rw [List.length_map, List.length_map, List.length_map]; exact bne_same
  · rw [lqg__1_0e]
    exact same_pts_loop (m + 1) (by omega) _ _ _ _ l (by omega) hp (m + 1) 0 (by omega) (by omega)
end
end
section
open Go Go.Abs
def okT : List It := [.bl 32, .wd 109 [97, 105, 110], .sg 40, .sg 41, .bl 32, .sg 123, .bl 32, .wd 115 [116, 111, 112], .bl 32, .sg 125]
def badT : List It := [.bl 32, .wd 109 [97, 105, 110], .sg 40, .bl 32, .sg 123, .bl 32, .wd 115 [116, 111, 112], .bl 32, .sg 125]
abbrev prc (t : List It) : List It := .wd 112 [114, 111, 99] :: t
abbrev okS : BB := [112, 114, 111, 99, 32, 109, 97, 105, 110, 40, 41, 32, 123, 32, 115, 116, 111, 112, 32, 125]
abbrev badS : BB := [112, 114, 111, 99, 32, 109, 97, 105, 110, 40, 32, 123, 32, 115, 116, 111, 112, 32, 125]
section
variable {m : Nat} {z : OR}
theorem ok_run (hm : 200 ≤ m) : T (m + 1) 10 [.one (sC okS)] [] = some (.tup [.agg [lC (.im true) 3 [], lC (.im true) 2 [], lC (.im false) 4 [procRow]], .one (iC 0), .one (iC 0)], []) := by
  obtain ⟨m, rfl⟩ : ∃ n, m = n + 4 := ⟨m - 4, by omega⟩
  obtain ⟨h1, h2⟩ := rows_ats (prc okT) 0 []
  rw [List.nil_append] at h1
  refine eq9_ (ctokens (c := 112) (w := [114, 111, 99]) (t := okT) (by decide) (by decide) (by decide) (by simp [okT]; omega) (bif_f rfl ?_))
  generalize rowsOf (prc okT) 0 = L at h1 h2
  obtain ⟨t1, t2⟩ := (show Ats L 0 ((0, [112, 114, 111, 99]) :: procToks) from h1)
  dsimp only
  rw [lq9__0_0e]
  refine cmore (a := 0) (b := false) (rst := rsN []) (by omega) t1 (bif_t rfl (ctake_no (by omega) t1 rfl (bif_f rfl (ctake_no (by omega) t1 rfl (bif_f rfl (ctake (by omega) (by omega) t1 (.inl rfl) (bif_t rfl (tg_im (cproc (by omega) (by omega) t2 (gd_t rfl ?_))))))))))
  dsimp only
  rw [lq9__0_0e]
  refine cmore_no (rst := rsI [109, 97, 105, 110]) (by omega) (by rw [h2]; rfl) (bif_f rfl (cfailed (rst := rsI [109, 97, 105, 110]) (by omega) (bif_f rfl ?_)))
  exact tg_im (tg_im (tg_own (gd_t rfl (gd_t rfl rfl))))
theorem bad_proc (m : Nat) : T (m + 60) 30 [pE] [bx sh11 (PB false (rowsOf (prc badT) 0) 1 19 (rsN []))] = some (.agg [sC [109, 97, 105, 110], lC (.im false) 3 [[.str [], .int .i64 5, .str []]], lC (.im true) 6 [], lC (.im true) 10 []],
    [bx sh11 ((false, rowsOf (prc badT) 0), 3, 19, 11, [109, 97, 105, 110], (.im false, [[.str [], .int .i64 5, .str []]]), (.im true, []), (.im true, []), ())]) := by kernel_rfl
abbrev badB : RowT sh11 := ((false, rowsOf (prc badT) 0), 3, 19, 11, [109, 97, 105, 110], (.im false, [[.str [], .int .i64 5, .str []]]), (.im true, []), (.im true, []), ())
theorem cfailed_b (hm : 1 ≤ m) {K : Bool × RowT sh11 × Unit → OR} (h : K (true, badB, ()) = z) : c32 (T m) badB K = z := by
  obtain ⟨m, rfl⟩ : ∃ n, m = n + 1 := ⟨m - 1, by omega⟩
  exact tr_bp (eq15_ rfl) h
theorem bad_run (hm : 200 ≤ m) : T (m + 1) 10 [.one (sC badS)] [] = some (.tup [.agg [lC (.im true) 3 [], lC (.im true) 2 [], lC (.im true) 4 []], .one (iC 11), .one (iC 1701)], []) := by
  obtain ⟨m, rfl⟩ : ∃ n, m = n + 60 := ⟨m - 60, by omega⟩
  obtain ⟨h1, h2⟩ := rows_ats (prc badT) 0 []
  rw [List.nil_append] at h1
  refine eq9_ (ctokens (c := 112) (w := [114, 111, 99]) (t := badT) (by decide) (by decide) (by decide) (by simp [badT]; omega) (bif_f rfl ?_))
  obtain ⟨t1, t2⟩ := (show Ats (rowsOf (prc badT) 0) 0 ((0, [112, 114, 111, 99]) :: [(0, [109, 97, 105, 110]), (3, [40]), (3, [123]), (0, [115, 116, 111, 112]), (3, [125])]) from h1)
  dsimp only
  rw [lq9__0_0e]
  refine cmore (a := 0) (b := false) (rst := rsN []) (by omega) t1 (bif_t rfl (ctake_no (by omega) t1 rfl (bif_f rfl (ctake_no (by omega) t1 rfl (bif_f rfl (ctake (by omega) (by omega) t1 (.inl rfl) (bif_t rfl (tg_im ?_))))))))
  refine tr_v (v := ([109, 97, 105, 110], (false, [[.str [], .int .i64 5, .str []]]), (true, []), (true, []), ())) (bad_proc m) rfl (gd_t rfl ?_)
  dsimp only
  rw [lq9__0_0e]
  have hmo : T (m + 60) 26 [pE] [bx sh11 badB] = some (.one (bC false), [bx sh11 badB]) := eq11_ (cfailed_b (by omega) (bif_f rfl rfl))
  exact tr_bp hmo (bif_f rfl (cfailed_b (by omega) (bif_t rfl rfl)))
theorem first_ok (hm : 210 ≤ m) : T (m + 1) 4 [] [] = some (.one (bC true), []) := by
  obtain ⟨m, rfl⟩ : ∃ n, m = n + 1 := ⟨m - 1, by omega⟩
  refine eq16_ (tr_t0 (v := (((true, []), (true, []), (false, [procRow]), ()), 0, 0, ())) (ok_run (by omega)) rfl (tr_t0 (v := (((true, []), (true, []), (true, []), ()), 11, 1701, ())) (bad_run (by omega)) rfl ?_))
  refine bif_t rfl (bif_t rfl (bif_t rfl (rA_of (v := ([109, 97, 105, 110], ())) rfl (by decide) rfl (bif_t rfl ?_))))
  refine rA_of (v := ((false, [stRow]), ())) rfl (by decide) rfl (bif_t rfl (rA_of (v := ((false, [stRow]), ())) rfl (by decide) rfl ?_))
  exact rA_of (v := (0, ())) rfl (by decide) rfl (bif_t rfl (bif_t rfl rfl))
end
end
section
open Go Go.Abs
theorem pts_len {P many : Nat} : ∀ (t : List PT) (i : Nat), (∀ y ∈ t, okP P many y) → (ptsTx i t).length ≤ 80 * t.length + 2
  | [], i, _ => by simp [ptsTx]
  | x :: t, i, h => by
    have h1 := ptTx_len (i := i) (h x (List.mem_cons_self ..))
    have h2 := pts_len t (i + 1) fun y hy => h y (List.mem_cons_of_mem _ hy)
    simp only [ptsTx, List.length_append, List.length_cons]; omega
theorem tns_len {P : Nat} : ∀ (t : List TN) (i : Nat), (∀ y ∈ t, okN P y) → (tnsTx i t).length ≤ 80 * t.length + 2
  | [], i, _ => by simp [tnsTx]
  | x :: t, i, h => by
    have h1 := tnTx_len (i := i) (h x (List.mem_cons_self ..))
    have h2 := tns_len t (i + 1) fun y hy => h y (List.mem_cons_of_mem _ hy)
    simp only [tnsTx, List.length_append, List.length_cons]; omega
theorem prot_len {M : Nat} {ps : List PT} (h : okPr M ps) : (protTx M ps).length ≤ 800 := by
  obtain ⟨h2, h4, h1, h8, hp⟩ := h
  have h5 := pts_len ps 0 hp
  have hj := joinS_len ((List.range M).map roleAt) (by
    intro y hy
    rw [List.mem_map] at hy
    obtain ⟨x, hx, rfl⟩ := hy
    simp [roleAt])
  rw [List.length_map, List.length_range] at hj
  simp only [protTx, List.length_append, List.length_cons, List.length_nil]; omega
theorem loc_len {ts : List TN} (h : okLo ts) : (locTx ts).length ≤ 600 := by
  have h5 := tns_len ts 0 h.2.2
  have := h.2.1
  simp only [locTx, List.length_append, List.length_cons, List.length_nil]; omega
section
variable {m : Nat} {z : OR}
theorem cnew (hm : 1 ≤ m) (b : Bool) (l : List Int) (hl : l.length ≤ 17592186044416) {K : (rs3).T → OR} (h : ∀ d : RowT sh0, Dice d → K ((), d, ()) = z) : c5 (T m) b (l.map encI) K = z := by
  obtain ⟨m, rfl⟩ : ∃ n, m = n + 1 := ⟨m - 1, by omega⟩
  have hg : ∀ b : Bool, (u8ok 8 (l.map encI) b && decide ((l.map encI).length * 8 ≤ 140737488355328)) = true := by
    intro b
    rw [show decide ((l.map encI).length * 8 ≤ 140737488355328) = true from decide_eq_true (by rw [List.length_map]; omega)]
    cases l with
    | nil => rfl
    | cons x l => rfl
  cases l with
  | nil => exact tr_v (v := ()) (eq12_ (gd_t (hg _) (bif_t rfl rfl))) rfl (h ((.im true, []), 0, ()) ⟨.im true, [], 0, rfl, Nat.le_refl _, by simp⟩)
  | cons x l => exact tr_v (v := ()) (eq12_ (gd_t (hg _) (bif_f rfl rfl))) rfl (h ((.own, (x :: l).map encI), 0, ()) ⟨.own, x :: l, 0, rfl, Nat.zero_le _, Nat.le_trans hl (by decide)⟩)
theorem law_ok (hm : 3000 ≤ m) (b1 b2 : Bool) (l1 l2 : List Int) (h1 : l1.length ≤ 17592186044416) (h2 : l2.length ≤ 17592186044416) :
    T (m + 1) 3 [.one (lC (.im b1) 1 (l1.map encI)), .one (lC (.im b2) 1 (l2.map encI))] [] = some (.one (bC true), []) := by
  obtain ⟨m, rfl⟩ : ∃ n, m = n + 2 := ⟨m - 2, by omega⟩
  refine eqx_ (tr_b (first_ok (m := m + 1) (by omega)) (bif_f rfl (cnew (by omega) b1 l1 h1 fun d hd => ?_)))
  obtain ⟨M, ps, d', hP, _, e1⟩ := protocol_ok (m + 2) (by omega) false (s := [112, 46, 97]) (.inl rfl) hd
  refine tr_v (v := ([112], (false, rolesR M), (false, ps.map cP), ())) e1 rfl (cnew (by omega) b2 l2 h2 fun d2 hd2 => ?_)
  obtain ⟨ts, d3, hN, _, e2⟩ := local_ok (m + 2) (by omega) false (s := [112, 46, 98]) (.inr rfl) hd2
  refine tr_v (v := ([122, 122], (false, ts.map cN), ())) e2 rfl ?_
  refine tr_b (gmay (m + 2) (by omega) false false hP) (bif_f rfl (tr_b (tmay (m + 2) (by omega) false _ hN.1 (by have := hN.2.1; omega) fun p hp => okN_of (hN.2.2 p hp)) (bif_f rfl ?_)))
  dsimp only
  rw [lqx__0_0e]
  have n1 := prot_len hP
  have n2 := loc_len hN
  obtain ⟨w1, w2, w3⟩ := whole_fl hP hN
  have hi := items_le (.wd 108 [111, 99, 97, 108] :: wholeT M ps ts)
  rw [w1] at hi
  simp only [List.length_append, List.length_cons, List.length_nil] at hi
  obtain ⟨r1, r2⟩ := rows_ats (.wd 108 [111, 99, 97, 108] :: wholeT M ps ts) 0 []
  rw [List.nil_append, w2] at r1
  rw [w2] at r2
  have hpr := whole_prog (m := m + 1) hP hN (tx := locTx ts ++ [112, 114, 111, 99, 32, 109, 97, 105, 110, 40, 41, 32, 123, 32, 115, 116, 111, 112, 32, 125] ++ protTx M ps) (by omega) r1 r2
    (fun K => ctokens w1.symm w3 (by simp only [List.length_append, List.length_cons, List.length_nil]; omega) (by omega) rfl)
  refine cloc (by omega) false hN (g63_t (by dsimp only; omega) (cprot (by omega) false false hP (g63_t (by simp only [List.length_append, List.length_cons, List.length_nil]; omega) ?_)))
  refine tr_t0 (v := (((false, [protRow M ps]), (false, [locRow ts]), (false, [procRow]), ()), 0, 0, ())) hpr rfl ?_
  refine bif_t rfl (bif_t rfl (bif_t rfl (bif_t rfl (bif_t rfl ?_))))
  refine qo (b := protRow M ps) rfl (gd_t rfl ?_)
  refine csame_prot (by omega) hP (bif_t rfl ?_)
  refine rA_of (v := ([122, 122], ())) rfl (by simp) rfl (bif_t rfl (rA_of (v := ((false, (ts.map nN).map cN), ())) rfl (by simp) rfl ?_))
  exact csame_turns (by omega) (by have := hN.2.1; omega) hN.2.2 rfl
end
end
end Go.Proofs.YtamcbchinhdniaaGreatDoor
