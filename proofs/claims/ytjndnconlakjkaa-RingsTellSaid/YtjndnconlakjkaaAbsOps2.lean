/- Operations that only compute: loads, addresses, parts. -/
import Derived.Test.YtjndnconlakjkaaAbsOps1
set_option linter.unusedVariables false
set_option linter.unusedSimpArgs false
namespace Go.Abs
section
variable {nm : FuncId → Option Nat} {N : Nat} {S : St} {a : Act} {w : World} {L : LabF} {P : Program} {o : Oper} {Cl : Oracle} {d : Nat} {r : V × List Wr}

theorem aggOf_inv {t : TypeId} {n : Nat} {agg : Bool} (h : aggOf P t = some (n, agg)) : ∃ i dd, P.info? t = some i ∧ P.underlying t = some dd ∧ i.size = n ∧ aggD dd = agg := by
  unfold aggOf at h
  split at h
  · rename_i i dd h1 h2
    simp only [Option.some.injEq, Prod.mk.injEq] at h
    exact ⟨i, dd, h1, h2, h.1, h.2⟩
  · cases h

theorem run_isAgg {t : TypeId} {n : Nat} {agg : Bool} (h : aggOf P t = some (n, agg)) (w : World) : (isAgg t).run P w = .ok agg w := by
  obtain ⟨i, dd, h1, h2, h3, h4⟩ := aggOf_inv h
  subst h4
  unfold isAgg
  rw [Sem.run_bind, run_underlying h2, Result.andThen_ok]
  cases dd <;> rfl
theorem run_sizeOf {t : TypeId} {n : Nat} {agg : Bool} (h : aggOf P t = some (n, agg)) (w : World) : (sizeOf t).run P w = .ok n w := by
  obtain ⟨i, dd, h1, h2, h3, h4⟩ := aggOf_inv h
  simp [sizeOf, typeInfo, h1, h3]
theorem run_sizeOf' {t : TypeId} {n : Nat} (h : szOf P t = some n) (w : World) : (sizeOf t).run P w = .ok n w := by
  unfold szOf at h
  cases hi : P.info? t with
  | none => simp [hi] at h
  | some i =>
    simp only [hi, Option.map_some, Option.some.injEq] at h
    simp [sizeOf, typeInfo, hi, h]

/-- A whole, or its one cell. -/
def wholeV (agg : Bool) (vs : List Value) : Value := if agg then .agg vs.toArray else vs.headD undef

theorem run_loadVar {t : TypeId} {n : Nat} {agg : Bool} (h : aggOf P t = some (n, agg)) {B o : Nat} {vs : List Value} (hn : vs.length = n) (h1 : agg = false → n = 1) (hc : ∀ j v, vs[j]? = some v → w.cell? ⟨B, o + j, none⟩ = some v) :
    (loadVar t ⟨B, o, none⟩).run P w = .ok (wholeV agg vs) w := by
  unfold loadVar
  rw [Sem.run_bind, run_isAgg h, Result.andThen_ok]
  cases agg with
  | true =>
    have := run_loadCells_list (P := P) w ⟨B, o, none⟩ vs (fun j v hv => by rw [add_off]; exact hc j v hv)
    simp [run_sizeOf h, ← hn, this, wholeV]
  | false =>
    have h1' := h1 rfl
    cases vs with
    | nil => simp at hn; omega
    | cons v t =>
      have := hc 0 v rfl
      simp only [Nat.add_zero] at this
      simp [this, wholeV]

theorem mkV_rep {k : Key} {γ : Key → Nat} {agg : Bool} {cs : List C} {x : V} {vs : List Value} (h : (mkV agg cs).run S = some x) (hl : cs.length = vs.length)
    (hc : ∀ j c v, cs[j]? = some c → vs[j]? = some v → RepC nm w L γ k j c v) : RepV nm w L γ k x (wholeV agg vs) ∧ (agg = false → cs.length = 1) := by
  unfold mkV at h
  cases agg with
  | true =>
    simp only [if_true, Q.run_pure, Option.some.injEq] at h
    subst h
    exact ⟨.agg (by simpa using hl) (fun j c u h1 h2 => hc j c u h1 (by simpa using h2)), by simp⟩
  | false =>
    simp only [Bool.false_eq_true, if_false] at h
    split at h
    · rename_i c
      simp only [Q.run_pure, Option.some.injEq] at h
      subst h
      cases vs with
      | nil => simp at hl
      | cons v t => exact ⟨.one (hc 0 c v rfl rfl), fun _ => rfl⟩
    · simp at h

theorem readCells_inv {r : Root} : ∀ (n c : Nat) {cs : List C}, (readCells r c n).run S = some cs → cs.length = n ∧ ∀ j, j < n → ∃ x, S.E (.b r (c + j)) = .one x ∧ cs[j]? = some (x.look (.b r (c + j)) (S.γ (.b r (c + j))) 0)
  | 0, c, cs, h => by
    simp only [readCells, Q.run_pure, Option.some.injEq] at h
    subst h
    exact ⟨rfl, fun j hj => by omega⟩
  | n + 1, c, cs, h => by
    simp only [readCells] at h
    have h := Q.run_at_some h
    split at h
    · rename_i x hx
      obtain ⟨t, h1, h2⟩ := Q.run_bind_some h
      obtain rfl := Q.run_pure_some h2
      obtain ⟨g1, g2⟩ := readCells_inv n (c + 1) h1
      refine ⟨by simp [g1], fun j hj => ?_⟩
      cases j with
      | zero => exact ⟨x, hx, rfl⟩
      | succ j =>
        obtain ⟨y, g3, g4⟩ := g2 j (by omega)
        refine ⟨y, by rw [show c + (j + 1) = c + 1 + j by omega]; exact g3, ?_⟩
        rw [show c + (j + 1) = c + 1 + j by omega]
        simpa using g4
    · cases h

theorem lookRow_get (pl : Place) (g i : Nat) : ∀ (row : List D) (c j : Nat), (lookRow pl g i c row)[j]? = (row[j]?).map fun x => lookD (pl.sub i (c + j)) g x
  | [], c, j => by simp [lookRow]
  | x :: t, c, 0 => by simp [lookRow]
  | x :: t, c, j + 1 => by
    simp only [lookRow, List.getElem?_cons_succ]
    rw [lookRow_get pl g i t (c + 1) j, show c + 1 + j = c + (j + 1) by omega]
theorem lookRow_length (pl : Place) (g i : Nat) : ∀ (row : List D) (c : Nat), (lookRow pl g i c row).length = row.length
  | [], _ => rfl
  | x :: t, c => by simp [lookRow, lookRow_length pl g i t]

/-- The content of a slice of an entry's own, at the state's own counts. -/
theorem ownAt0 (R : Rel nm N S a w L) {pl : Place} (hk : pl.k.isPl = true) {g sz : Nat} {res : Ent × D × List (List D)} (h : (ownAt [] pl g sz).run S = some res) :
    g = S.γ pl.k ∧ ∃ u, RepD w L pl (.sl .own sz res.2.2) u := by
  obtain ⟨h1, h2, h3, h4⟩ := ownAt_run h
  have M := Mid.init R
  exact ⟨h2, M.at_own hk h3 h4⟩

theorem own_rep {pl : Place} {γ : Key → Nat} {x : D} {v : Value} {k : Key} {j : Nat} (hk : pl.k.isPl = true) (h : RepD w L pl x v) :
    RepC nm w L γ k j (lookD pl (γ pl.k) x) v := by
  have own : ∀ {sz : Nat} {rows : List (List D)} {v : Value}, RepD w L pl (.sl .own sz rows) v → RepC nm w L γ k j (.view pl (γ pl.k) sz 0 rows.length) v := by
    intro sz rows v h
    refine .view h.sliceLike hk (Nat.le_refl _) (fun _ => ?_)
    rcases h.own_inv with ⟨rfl, a, rfl⟩ | ⟨B, o, cap, cur, e, fz, val, rfl, hsz, hL, hB, hfz, hlens, hcap, hroom, hval, hr⟩
    · exact .inl ⟨rfl, a, rfl⟩
    · exact .inr ⟨B, o, cap, cur, e, fz, by simp, hsz, hL, hB, hfz, hcap, by omega⟩
  cases x with
  | sl t sz rows =>
    cases t with
    | own => exact own h
    | im b => cases h with | plain h => exact .d (.plain h)
  | _ => cases h with | plain h => exact .d (.plain h)

theorem ev_load (R : Rel nm N S a w L) (hd : ∀ d, o.dst = some d → d < N) {x : Operand} {X : Abs.X} {t : TypeId} {n : Nat} {agg : Bool} (hx : OpRel nm X x) (ho : o.op = .load t x) (ht : aggOf P t = some (n, agg))
    (hr : (evOp Cl d (.load n agg X)).run S = some r) : OpsTo P a w o (Aft nm N S w L a o.dst r.1 r.2) := by
  simp only [evOp] at hr
  obtain ⟨v, h1, h2⟩ := Q.run_bind_some hr
  have hv := rd_val R hx h1
  have run : ∀ (B o' : Nat) (vs : List Value), a.eval x = .pointer (some ⟨B, o', none⟩) → vs.length = n → (agg = false → n = 1) → (∀ j v, vs[j]? = some v → w.cell? ⟨B, o' + j, none⟩ = some v) →
      (execOp a.eval o).run P w = .ok (.value (wholeV agg vs)) w := by
    intro B o' vs hb hn h1 hc
    have := run_loadVar ht hn h1 hc
    simp [execOp, ho, hb, Instr.loadAt, Instr.sureAddr, this]
  split at h2
  · -- a box
    rename_i r0 g c
    have h2 := Q.run_at_some h2
    obtain ⟨hg, h2⟩ := Q.run_guard_some h2
    simp only [Bool.and_eq_true, Bool.not_eq_true', beq_iff_eq, decide_eq_true_eq] at hg
    obtain ⟨⟨hG, hg⟩, hcn⟩ := hg
    obtain ⟨cs, h3, h2⟩ := Q.run_bind_some h2
    obtain ⟨x', h4, h2⟩ := Q.run_bind_some h2
    obtain rfl := Q.run_pure_some h2
    obtain ⟨hlen, hcells⟩ := readCells_inv n c h3
    cases hv.one_inv with
    | ptr hv0 hgl hp =>
      obtain ⟨B, o', hB, hval⟩ := hp hg.symm
      by_cases hn0 : n = 0
      · -- no cell
        subst hn0
        have hcs : cs = [] := List.length_eq_zero_iff.1 hlen
        subst hcs
        obtain ⟨hm, hm1⟩ := mkV_rep (nm := nm) (w := w) (L := L) (γ := S.γ) (k := .h 0) (vs := []) h4 rfl (fun j c v h => by simp at h)
        exact opVal R hd (run B (o' + c) [] hval rfl (fun h => by have := hm1 h; simp at this) (fun j v h => by simp at h)) hm
      obtain ⟨B', o'', cur, e, fz, k1, k2, k3, k4⟩ := R.room r0 hG (by have : c + n ≤ boxN (S.E (.r r0)) := hcn; omega)
      obtain rfl := R.boxInj B' B r0 o'' o' k1 hB
      obtain rfl : o'' = o' := by rw [k1] at hB; simpa using hB
      have hcn' : c + n ≤ boxN (S.E (.r r0)) := hcn
      let vs := (List.range n).map fun j => cur.getD (o'' + c + j) undef
      have hvs : ∀ j v, vs[j]? = some v → j < n ∧ cur[o'' + c + j]? = some v := by
        intro j v hjv
        simp only [vs, List.getElem?_map] at hjv
        have hj : j < n := by
          rcases Nat.lt_or_ge j n with h | h
          · exact h
          · simp [List.getElem?_eq_none, h] at hjv
        have hlt : o'' + c + j < cur.size := by omega
        simp [hj, Array.getD, hlt] at hjv
        exact ⟨hj, by simp [hlt, hjv]⟩
      have hvl : vs.length = n := by simp [vs]
      have hm := mkV_rep (nm := nm) (w := w) (L := L) (γ := S.γ) (k := .h 0) (vs := vs) h4 (by rw [hlen, hvl]) (by
        intro j c1 v1 hc1 hv1
        obtain ⟨hj, hcur⟩ := hvs j v1 hv1
        obtain ⟨y, hy1, hy2⟩ := hcells j hj
        rw [hc1] at hy2
        simp only [Option.some.injEq] at hy2
        subst hy2
        by_cases hyd : y = .dead
        · subst hyd; exact .dead
        · have hat := R.cell r0 (c + j) y hy1 hyd
          have : ∃ B o cur e fz v, L B = some (.box r0 o) ∧ w.heap[B]? = some (.cells cur e fz) ∧ unfroz cur.size fz ∧ cur[o + (c + j)]? = some v ∧ RepC nm w L S.γ (.b r0 (c + j)) 0 y v := by
            cases r0 with
            | g i => simp [Root.isG] at hG
            | e i => exact hat
            | l i => exact hat
          obtain ⟨B2, o2, cur2, e2, fz2, v2, a1, a2, a3, a4, a5⟩ := this
          obtain rfl := R.boxInj B2 B' r0 o2 o'' a1 k1
          obtain rfl : o2 = o'' := by rw [a1] at k1; simpa using k1
          obtain ⟨rfl, rfl, rfl⟩ : cur2 = cur ∧ e2 = e ∧ fz2 = fz := by rw [a2] at k2; simpa using k2
          rw [← Nat.add_assoc, hcur] at a4
          simp only [Option.some.injEq] at a4
          subst a4
          exact a5.look rfl _ _)
      refine opVal R hd (run B' (o'' + c) vs hval hvl (fun h => by rw [← hlen]; exact hm.2 h) (fun j v h => ?_)) hm.1
      rw [cell?_of k2]
      exact (hvs j v h).2
  · -- memory that nobody writes
    rename_i cells
    obtain ⟨hg, h2⟩ := Q.run_guard_some h2
    simp only [decide_eq_true_eq] at hg
    obtain ⟨x', h4, h2⟩ := Q.run_bind_some h2
    obtain rfl := Q.run_pure_some h2
    have hv' := hv.one_inv
    generalize hax : a.eval x = u at hv'
    cases hv' with
    | @pp _ B o' cur e fz hL hB hp =>
      have hj : ∀ j, j < n → ∃ y u, cells[j]? = some y ∧ cur[o' + j]? = some u ∧ RepP w L y u := by
        intro j hj
        obtain ⟨u, g1, g2⟩ := hp j (cells[j]'(by omega)) (by simp)
        exact ⟨_, u, by simp, g1, g2⟩
      let vs := (List.range n).map fun j => cur.getD (o' + j) undef
      have hvl : vs.length = n := by simp [vs]
      have hvs : ∀ j v, vs[j]? = some v → j < n ∧ cur[o' + j]? = some v := by
        intro j v hjv
        simp only [vs, List.getElem?_map] at hjv
        have hjn : j < n := by
          rcases Nat.lt_or_ge j n with h | h
          · exact h
          · simp [List.getElem?_eq_none, h] at hjv
        obtain ⟨y, u, _, g1, _⟩ := hj j hjn
        simp [hjn, Array.getD_eq_getD_getElem?, g1] at hjv
        exact ⟨hjn, by rw [g1, hjv]⟩
      have hm := mkV_rep (nm := nm) (w := w) (L := L) (γ := S.γ) (k := .h 0) (vs := vs) h4 (by simp [hvl]; omega) (by
        intro j c1 v1 hc1 hv1
        obtain ⟨hjn, hcur⟩ := hvs j v1 hv1
        obtain ⟨y, u, g0, g1, g2⟩ := hj j hjn
        rw [hcur] at g1
        simp only [Option.some.injEq] at g1
        subst g1
        simp only [List.getElem?_map, List.getElem?_take_of_lt hjn, g0, Option.map_some, Option.some.injEq] at hc1
        subst hc1
        exact .d (.plain g2))
      refine opVal R hd (run B o' vs hax hvl (fun h => ?_) (fun j v h => ?_)) hm.1
      · have := hm.2 h; simp at this; omega
      · rw [cell?_of hB]; exact (hvs j v h).2
  · -- a row of a slice of one's own
    rename_i pl g sz i c
    obtain ⟨res, h3, h2⟩ := Q.run_bind_some h2
    obtain ⟨row, hrow, h2⟩ := Q.run_ofO_some h2
    obtain ⟨hg, h2⟩ := Q.run_guard_some h2
    simp only [decide_eq_true_eq] at hg
    obtain ⟨x', h4, h2⟩ := Q.run_bind_some h2
    obtain rfl := Q.run_pure_some h2
    cases hv.one_inv with
    | eptr hv0 hh hgl hp =>
      obtain ⟨hgg, u, hu⟩ := ownAt0 R hh h3
      obtain ⟨B, o', hB, hval⟩ := hp hgg
      rcases hu.own_inv with ⟨hnil, _⟩ | ⟨B', o'', cap, cur, e, fz, val, _, hsz, hL', hB', hfz, hlens, hcap, hroom, hvalc, hrr⟩
      · rw [hnil] at hrow; simp at hrow
      obtain rfl := R.rowInj B' B pl o'' o' hL' hB
      obtain rfl : o'' = o' := by rw [hL'] at hB; simpa using hB
      have hrl : row.length = sz := hlens row (List.mem_of_getElem? hrow)
      have hj : ∀ j, j < n → ∃ y, row[c + j]? = some y ∧ cellOf res.2.2 i (c + j) = some y := by
        intro j hj
        refine ⟨row[c + j]'(by omega), by simp, cellOf_some.2 ⟨row, hrow, by simp⟩⟩
      let vs := (List.range n).map fun j => val i (c + j)
      have hvl : vs.length = n := by simp [vs]
      have hvs : ∀ j v, vs[j]? = some v → j < n ∧ v = val i (c + j) := by
        intro j v hjv
        simp only [vs, List.getElem?_map] at hjv
        have hjn : j < n := by
          rcases Nat.lt_or_ge j n with h | h
          · exact h
          · simp [List.getElem?_eq_none, h] at hjv
        simp [hjn] at hjv
        exact ⟨hjn, hjv.symm⟩
      have hll : (lookRow pl g i c ((row.drop c).take n)).length = n := by rw [lookRow_length]; simp; omega
      have hm := mkV_rep (nm := nm) (w := w) (L := L) (γ := S.γ) (k := .h 0) (vs := vs) h4 (by rw [hll, hvl]) (by
        intro j c1 v1 hc1 hv1
        obtain ⟨hjn, rfl⟩ := hvs j v1 hv1
        obtain ⟨y, g0, g1⟩ := hj j hjn
        rw [lookRow_get, List.getElem?_take_of_lt hjn, List.getElem?_drop, g0] at hc1
        simp only [Option.map_some, Option.some.injEq] at hc1
        have := own_rep (nm := nm) (γ := S.γ) (k := .h 0) (j := j) (pl := pl.sub i (c + j)) hh (hrr i (c + j) y g1)
        have hk2 : S.γ (pl.sub i (c + j)).k = g := hgg.symm
        rw [hk2] at this
        rw [← hc1]
        exact this)
      refine opVal R hd (run B' (o'' + i * sz + c) vs hval hvl (fun h => ?_) (fun j v h => ?_)) hm.1
      · have := hm.2 h; rw [hll] at this; exact this
      · obtain ⟨hjn, rfl⟩ := hvs j v h
        obtain ⟨y, g0, g1⟩ := hj j hjn
        rw [cell?_of hB']
        have := hvalc i (c + j) y g1
        rwa [← Nat.add_assoc] at this
  · cases h2
end
end Go.Abs
