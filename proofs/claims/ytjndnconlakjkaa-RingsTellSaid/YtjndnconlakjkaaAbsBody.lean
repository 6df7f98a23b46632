/- What a function hands back. -/
import Derived.Test.YtjndnconlakjkaaAbsCall7
set_option linter.unusedVariables false
set_option linter.unusedSimpArgs false
namespace Go.Abs
section
variable {nm : FuncId → Option Nat} {N : Nat} {S S0 : St} {a : Act} {w : World} {L L0 : LabF} {P : Program} {ws : List Wr}

/-- A result's value. -/
def resVal (P : Program) (w : World) (tmps : Array Value) (rv : ResultVar) (v : Value) : Prop :=
  (match rv with
    | .tmp t => (pure (tmps.getD t undef) : Sem Value)
    | .cell a t => do loadVar t (← asAddr (tmps.getD a undef))).run P w = .ok v w

theorem load_core (R : Rel nm N S a w L) {r0 : Root} {g c : Nat} {u : Value} {t : TypeId} {n : Nat} {agg : Bool} (ht : aggOf P t = some (n, agg)) (hv : RepC nm w L S.γ (.h 0) 0 (.ptr r0 g c) u)
    (hG : r0.isG = false) (hg : (S.get (.r r0)).g = g) (hcn : c + n ≤ boxN (S.get (.r r0)).v) {cs : List C} (h3 : (readCells r0 c n).run S = some cs) {x' : V} (h4 : (mkV agg cs).run S = some x') :
    ∃ val, (∃ ad, u = .pointer (some ad) ∧ (loadVar t ad).run P w = .ok val w) ∧ RepV nm w L S.γ (.h 0) x' val := by
    obtain ⟨hlen, hcells⟩ := readCells_inv n c h3
    cases hv with
    | ptr hv0 hgl hp =>
      obtain ⟨B, o', hB, hval⟩ := hp hg.symm
      by_cases hn0 : n = 0
      · -- no cell
        subst hn0
        have hcs : cs = [] := List.length_eq_zero_iff.1 hlen
        subst hcs
        obtain ⟨hm, hm1⟩ := mkV_rep (nm := nm) (w := w) (L := L) (γ := S.γ) (k := .h 0) (vs := []) h4 rfl (fun j c v h => by simp at h)
        exact ⟨_, ⟨_, hval, run_loadVar ht rfl (fun h => by have := hm1 h; simp at this) (fun j v h => by simp at h)⟩, hm⟩
      obtain ⟨B', o'', cur, e, fz, k1, k2, k3, k4⟩ := R.room r0 hG (by have : c + n ≤ boxN (S.E (.r r0)) := hcn; omega)
      obtain rfl := R.boxInj B' B r0 o'' o' k1 hB
      obtain rfl : o'' = o' := by rw [k1] at hB; simpa using hB
      have hcn' : c + n ≤ boxN (S.E (.r r0)) := hcn
      let vs := (List.range n).map fun j => cur.getD (o'' + c + j) undef
      have hvs : ∀ j v, vs[j]? = some v → j < n ∧ cur[o'' + c + j]? = some v := by
        intro j v hjv
        simp only [vs, List.getElem?_map] at hjv
        have hj : j < n := by
          rcases Nat.lt_or_ge j n with h | h
          · exact h
          · simp [List.getElem?_eq_none, h] at hjv
        have hlt : o'' + c + j < cur.size := by omega
        simp [hj, Array.getD, hlt] at hjv
        exact ⟨hj, by simp [hlt, hjv]⟩
      have hvl : vs.length = n := by simp [vs]
      have hm := mkV_rep (nm := nm) (w := w) (L := L) (γ := S.γ) (k := .h 0) (vs := vs) h4 (by rw [hlen, hvl]) (by
        intro j c1 v1 hc1 hv1
        obtain ⟨hj, hcur⟩ := hvs j v1 hv1
        obtain ⟨y, hy1, hy2⟩ := hcells j hj
        rw [hc1] at hy2
        simp only [Option.some.injEq] at hy2
        subst hy2
        by_cases hyd : y = .dead
        · subst hyd; exact .dead
        · have hat := R.cell r0 (c + j) y hy1 hyd
          have : ∃ B o cur e fz v, L B = some (.box r0 o) ∧ w.heap[B]? = some (.cells cur e fz) ∧ unfroz cur.size fz ∧ cur[o + (c + j)]? = some v ∧ RepC nm w L S.γ (.b r0 (c + j)) 0 y v := by
            cases r0 with
            | g i => simp [Root.isG] at hG
            | e i => exact hat
            | l i => exact hat
          obtain ⟨B2, o2, cur2, e2, fz2, v2, a1, a2, a3, a4, a5⟩ := this
          obtain rfl := R.boxInj B2 B' r0 o2 o'' a1 k1
          obtain rfl : o2 = o'' := by rw [a1] at k1; simpa using k1
          obtain ⟨rfl, rfl, rfl⟩ : cur2 = cur ∧ e2 = e ∧ fz2 = fz := by rw [a2] at k2; simpa using k2
          rw [← Nat.add_assoc, hcur] at a4
          simp only [Option.some.injEq] at a4
          subst a4
          exact a5.look rfl _ _)
      refine ⟨_, ⟨_, hval, run_loadVar ht hvl (fun h => by rw [← hlen]; exact hm.2 h) (fun j v h => ?_)⟩, hm.1⟩
      rw [cell?_of k2]
      exact (hvs j v h).2

theorem readCells_own {r : Root} {n c : Nat} {cs : List C} (h : (readCells r c n).run S = some cs) : cs.any C.own = false := by
  obtain ⟨h1, h2⟩ := readCells_inv n c h
  rw [List.any_eq_false]
  intro x hx
  obtain ⟨j, hj⟩ := List.getElem?_of_mem hx
  obtain ⟨y, _, h3⟩ := h2 j (by rw [← h1]; exact (List.getElem?_eq_some_iff.1 hj).1)
  rw [hj] at h3
  simp only [Option.some.injEq] at h3
  rw [h3, Go.Abs.look_own]; simp

theorem mkV_own {agg : Bool} {cs : List C} {x : V} (h : (mkV agg cs).run S = some x) (hc : cs.any C.own = false) : x.own = false := by
  unfold mkV at h
  split at h
  · obtain rfl := Q.run_pure_some h; exact hc
  · split at h
    · obtain rfl := Q.run_pure_some h; simpa [V.own, V.cells] using hc
    · cases h

theorem rdRes_rep (R0 : Rel nm N S0 a w L0) (M : Mid nm N S0 w L0 ws a w L) (hH : NoH L) {rv : ResultVar} {R : RV} (hc : compR P rv = some R) {r : V × List Wr} (hr : (rdRes ws R).run S0 = some r) :
    ∃ v L', Out nm N S0 w L0 ws r.2 a w L L' (fun _ => True) 0 ∧ LimV nm w L0 S0.γ w L' (S0.wrs r.2).γ 0 r.1 v ∧ resVal P w a.tmps rv v := by
  cases rv with
  | tmp t =>
    simp only [compR, Option.some.injEq] at hc
    subst hc
    simp only [rdRes] at hr
    obtain ⟨L', h1, h2⟩ := tk_rep M R0 (hH.free 0) (x := .t t) (o := .tmp t) rfl .t hr
    exact ⟨_, L', h1, h2, rfl⟩
  | cell ad t =>
    simp only [compR] at hc
    obtain ⟨⟨n, agg⟩, h1, h2⟩ := bind_some hc
    cases h2
    simp only [rdRes] at hr
    obtain ⟨v, h3, h4⟩ := Q.run_bind_some hr
    have hv := rd_val R0 (x := .tmp ad) .s h3
    split at h4
    · rename_i r0 g c
      have h5 := Q.run_at_some h4
      obtain ⟨hg, h6⟩ := Q.run_guard_some h5
      simp only [Bool.and_eq_true, Bool.not_eq_true', beq_iff_eq, decide_eq_true_eq] at hg
      obtain ⟨cs, h7, h8⟩ := Q.run_bind_some h6
      obtain ⟨x', h9, h10⟩ := Q.run_bind_some h8
      obtain rfl := Q.run_pure_some h10
      obtain ⟨val, ⟨ad', e1, e2⟩, rep⟩ := load_core R0 h1 hv.one_inv hg.1.1 hg.1.2 hg.2 h7 h9
      refine ⟨val, L, Out.refl M _ 0, LimV.of_rep M.stp rep (mkV_own h9 (readCells_own h7)), ?_⟩
      have e1' : a.tmps.getD ad undef = .pointer (some ad') := e1
      simp [resVal, e1', asAddr, e2]
    · cases h4

theorem stMvL_rep : ∀ (cs : List C) {ws : List Wr} {L : LabF} (M : Mid nm N S0 w L0 ws a w L) (j0 : Nat) (vs : Nat → Value)
    (hc : ∀ j c, cs[j]? = some c → LimC nm w L0 S0.γ w L (S0.wrs ws).γ 0 (j0 + j) c (vs (j0 + j))) {r : List C × List Wr} (hr : (stMvL ws cs).run S0 = some r),
    ∃ L', Out nm N S0 w L0 ws r.2 a w L L' (fun q => ¬ (q.k = .h 0 ∧ j0 ≤ q.j)) 0 ∧ r.1.length = cs.length ∧
      ∀ j c, r.1[j]? = some c → RepC nm w L' (S0.wrs r.2).γ (.h 0) (j0 + j) c (vs (j0 + j))
  | [], ws, L, M, j0, vs, hc, r, hr => by
    simp only [stMvL] at hr
    obtain rfl := Q.run_pure_some hr
    exact ⟨L, Out.refl M _ 0, rfl, fun j c h => by simp at h⟩
  | c :: cs, ws, L, M, j0, vs, hc, r, hr => by
    simp only [stMvL] at hr
    obtain ⟨⟨c1, ws1⟩, h1, h2⟩ := Q.run_bind_some hr
    clear hr
    obtain ⟨⟨cs2, ws2⟩, h3, h4⟩ := Q.run_bind_some h2
    clear h2
    obtain rfl := Q.run_pure_some h4
    dsimp only at h3
    obtain ⟨L1, O1, R1⟩ := stMv_rep M (by simpa using hc 0 c rfl) h1
    dsimp only at O1 R1
    obtain ⟨L2, O2, hl, R2⟩ := stMvL_rep cs O1.mid (j0 + 1) vs (fun j c h => by
      have := hc (j + 1) c (by simpa using h)
      have := this.keep O1.keep (fun p => by simp)
      rwa [show j0 + 1 + j = j0 + (j + 1) by omega]) h3
    refine ⟨L2, (O1.weaken ?_).trans (O2.weaken ?_), by simp [hl], ?_⟩
    · intro q hq h; exact hq ⟨h.1, by omega⟩
    · intro q hq h; exact hq ⟨h.1, by omega⟩
    · intro j c hj
      cases j with
      | zero =>
        simp only [List.getElem?_cons_zero, Option.some.injEq] at hj
        subst hj
        exact R1.keep O2.keep (fun p => by simp)
      | succ j =>
        have := R2 j c (by simpa using hj)
        rwa [show j0 + 1 + j = j0 + (j + 1) by omega] at this

/-- Labels under way bear number 0 alone. -/
def OnlyH (L : LabF) : Prop := ∀ B q o, L B = some (.row q o) → q.k.isPl = false → q.k = .h 0

theorem onlyH_of {ws' : List Wr} {L' : LabF} {K : Place → Prop} (hH : NoH L) (O : Out nm N S0 w L0 ws ws' a w L L' K 0) : OnlyH L' := by
  intro B q o hB hq
  by_cases hk : q.k = .h 0
  · exact hk
  · have := hH B q o (O.onlyH B q o hq hk hB)
    rw [hq] at this; cases this
theorem onlyH_noH (hH : NoH L) : OnlyH L := fun B q o hB hq => by have := hH B q o hB; rw [hq] at this; cases this

theorem resOne_rep (R0 : Rel nm N S0 a w L0) (hH : NoH L0) {rv : ResultVar} {R : RV} (hc : compR P rv = some R) {r : V × List Wr} (hr : (resOne R).run S0 = some r) :
    ∃ v L', Mid nm N S0 w L0 r.2 a w L' ∧ OnlyH L' ∧ RepV nm w L' (S0.wrs r.2).γ (.h 0) r.1 v ∧ resVal P w a.tmps rv v := by
  simp only [resOne] at hr
  obtain ⟨⟨x, ws1⟩, h1, h2⟩ := Q.run_bind_some hr
  clear hr
  obtain ⟨v, L1, O1, V1, hv⟩ := rdRes_rep R0 (Mid.init R0) hH hc h1
  dsimp only at h2 O1 V1
  split at h2
  · rename_i c
    obtain ⟨⟨c', ws2⟩, h3, h4⟩ := Q.run_bind_some h2
    clear h2
    obtain rfl := Q.run_pure_some h4
    obtain ⟨L2, O2, R2⟩ := stMv_rep (m := 0) (j := 0) (v := v) O1.mid V1 h3
    dsimp only at O2 R2 ⊢
    exact ⟨v, L2, O2.mid, onlyH_of hH ((O1.weaken (K' := fun q => ¬ (q.k = .h 0 ∧ q.j = 0)) (fun _ _ => trivial)).trans O2), .one R2, hv⟩
  · rename_i cs
    obtain ⟨⟨cs', ws2⟩, h3, h4⟩ := Q.run_bind_some h2
    clear h2
    obtain rfl := Q.run_pure_some h4
    obtain ⟨us, rfl, hl, hV⟩ := V1
    obtain ⟨L2, O2, l2, R2⟩ := stMvL_rep cs O1.mid 0 (fun j => us.getD j undef) (fun j c hc => by
      have hj : j < us.size := by rw [← hl]; exact (List.getElem?_eq_some_iff.1 hc).1
      have := hV j c _ hc (Array.getElem?_eq_getElem hj)
      simpa [Array.getD, hj] using this) h3
    dsimp only at O2 R2 l2 ⊢
    refine ⟨_, L2, O2.mid, onlyH_of hH ((O1.weaken (K' := fun q => ¬ (q.k = .h 0 ∧ 0 ≤ q.j)) (fun _ _ => trivial)).trans O2), .agg (by simp [l2, hl]) (fun j c u hj hu => ?_), hv⟩
    have := R2 j c hj
    rw [Nat.zero_add] at this
    simp only [Array.getD_eq_getD_getElem?, hu, Option.getD_some] at this
    exact this
  · cases h2

theorem resVs_rep (R0 : Rel nm N S0 a w L0) : ∀ (rvs : List ResultVar) {Rs : List RV} {ws : List Wr} {L : LabF} (M : Mid nm N S0 w L0 ws a w L) (hH : NoH L) (hc : rvs.mapM (compR P) = some Rs) {rr : List V × List Wr} (hr : (resVs ws Rs).run S0 = some rr),
    ∃ (vs : List Value) (L' : LabF), Mid nm N S0 w L0 rr.2 a w L' ∧ NoH L' ∧ Step w w L L' (S0.wrs ws).γ (S0.wrs rr.2).γ ∧ rr.1.length = vs.length ∧ cleanVs rr.1 = true ∧ (∀ (j : Nat) x v, rr.1[j]? = some x → vs[j]? = some v → RepV nm w L' (S0.wrs rr.2).γ (.h 0) x v) ∧
      vs.length = rvs.length ∧ ∀ (j : Nat) rv v, rvs[j]? = some rv → vs[j]? = some v → resVal P w a.tmps rv v
  | [], Rs, ws, L, M, hH, hc, rr, hr => by
    have : Rs = [] := by simpa using hc.symm
    subst this
    simp only [resVs] at hr
    obtain rfl := Q.run_pure_some hr
    exact ⟨[], L, M, hH, Step.same w L (fun _ => Nat.le_refl _), rfl, rfl, fun j x p h => by simp at h, rfl, fun j x p h => by simp at h⟩
  | rv :: rvs, Rs, ws, L, M, hH, hc, rr, hr => by
    rw [List.mapM_cons] at hc
    obtain ⟨R, hc1, hc2⟩ := bind_some hc
    obtain ⟨Rt, hc3, hc4⟩ := bind_some hc2
    cases hc4
    simp only [resVs] at hr
    obtain ⟨⟨x, ws1⟩, h1, h2⟩ := Q.run_bind_some hr
    clear hr
    obtain ⟨v, L1, O1, V1, hv⟩ := rdRes_rep R0 M hH hc1 h1
    dsimp only at h2 O1 V1
    have fin : ∀ {ws2 : List Wr} {L2 : LabF} {x' : V} {rest : List V × List Wr}, Mid nm N S0 w L0 ws2 a w L2 → NoH L2 → Step w w L L2 (S0.wrs ws).γ (S0.wrs ws2).γ → x'.clean = true → RepV nm w L2 (S0.wrs ws2).γ (.h 0) x' v → (resVs ws2 Rt).run S0 = some rest → rr = (x' :: rest.1, rest.2) →
        ∃ (vs : List Value) (L' : LabF), Mid nm N S0 w L0 rr.2 a w L' ∧ NoH L' ∧ Step w w L L' (S0.wrs ws).γ (S0.wrs rr.2).γ ∧ rr.1.length = vs.length ∧ cleanVs rr.1 = true ∧ (∀ (j : Nat) x v, rr.1[j]? = some x → vs[j]? = some v → RepV nm w L' (S0.wrs rr.2).γ (.h 0) x v) ∧
          vs.length = (rv :: rvs).length ∧ ∀ (j : Nat) rv' v, (rv :: rvs)[j]? = some rv' → vs[j]? = some v → resVal P w a.tmps rv' v := by
      intro ws2 L2 x' rest M2 hH2 st2 hcl rep h5 hrr
      obtain ⟨vs, L3, M3, hH3, st3, hl3, hc3, R3, hl4, hv4⟩ := resVs_rep R0 rvs M2 hH2 hc3 h5
      subst hrr
      refine ⟨v :: vs, L3, M3, hH3, st2.trans st3, by simp [hl3], by simp [cleanVs, hcl, hc3], ?_, by simp [hl4], ?_⟩
      · intro j x v' hj hv'
        cases j with
        | zero =>
          simp only [List.getElem?_cons_zero, Option.some.injEq] at hj hv'
          subst hj; subst hv'
          exact rep.stepClean st3 hcl _
        | succ j => exact R3 j x v' (by simpa using hj) (by simpa using hv')
      · intro j rv' v' hj hv'
        cases j with
        | zero =>
          simp only [List.getElem?_cons_zero, Option.some.injEq] at hj hv'
          subst hj; subst hv'
          exact hv
        | succ j => exact hv4 j rv' v' (by simpa using hj) (by simpa using hv')
    split at h2
    · rename_i c
      obtain ⟨⟨c', ws2⟩, h3, h4⟩ := Q.run_bind_some h2
      clear h2
      obtain ⟨⟨vs, ws3⟩, h5, h6⟩ := Q.run_bind_some h4
      clear h4
      have hrr := Q.run_pure_some h6
      obtain ⟨L2, O2, R2⟩ := st_rep (m := 0) (j := 0) (c := c) (v := v) O1.mid V1 h3
      dsimp only at O2 R2 h5
      have O12 := (O1.weaken (K' := fun q => ¬ (q.k = .h 0 ∧ q.j = 0)) (fun _ _ => trivial)).trans O2
      obtain ⟨M3, st3⟩ := O2.mid.frz
      obtain ⟨R3, hcl⟩ := RepC.plainH (k' := .h 0) (j' := 0) st3 R2 (st_noappd h3)
      exact fin M3 (noH_frz O2.mid (onlyH_of hH O12)) (O12.stp.trans st3) (x' := .one c'.plain) hcl (.one R3) h5 hrr
    · rename_i cs
      obtain ⟨⟨cs', ws2⟩, h3, h4⟩ := Q.run_bind_some h2
      clear h2
      obtain ⟨⟨vs, ws3⟩, h5, h6⟩ := Q.run_bind_some h4
      clear h4
      have hrr := Q.run_pure_some h6
      obtain ⟨us, hus, hl, hV⟩ := V1
      obtain ⟨L2, O2, l2, R2⟩ := stL_rep (m := 0) cs O1.mid 0 (fun j => us.getD j undef) (fun j c hc => by
        have hj : j < us.size := by rw [← hl]; exact (List.getElem?_eq_some_iff.1 hc).1
        have := hV j c _ hc (Array.getElem?_eq_getElem hj)
        simpa [Array.getD, hj] using this) h3
      dsimp only at O2 R2 h5 l2
      have O12 := (O1.weaken (K' := fun q => ¬ (q.k = .h 0 ∧ 0 ≤ q.j)) (fun _ _ => trivial)).trans O2
      obtain ⟨M3, st3⟩ := O2.mid.frz
      have each : ∀ (j : Nat) c, (cs'.map C.plain)[j]? = some c → c.clean = true ∧ ∀ u, us[j]? = some u → RepC nm w (frzH L2) (S0.wrs ws2).γ (.h 0) j c u := by
        intro j c hc
        rw [List.getElem?_map] at hc
        cases hj : cs'[j]? with
        | none => simp [hj] at hc
        | some c0 =>
          simp only [hj, Option.map_some, Option.some.injEq] at hc
          subst hc
          have := R2 j c0 hj
          rw [Nat.zero_add] at this
          have hp := RepC.plainH (k' := .h 0) (j' := j) st3 this (stL_noappd _ h3 c0 (List.mem_of_getElem? hj))
          refine ⟨hp.2, fun u hu => ?_⟩
          have h1 := hp.1
          simp only [Array.getD_eq_getD_getElem?, hu, Option.getD_some] at h1
          exact h1
      refine fin M3 (noH_frz O2.mid (onlyH_of hH O12)) (O12.stp.trans st3) (x' := .agg (cs'.map C.plain)) (cleanL_map (fun j c hc => (each j c hc).1)) ?_ h5 hrr
      rw [hus]
      exact .agg (by simp [l2, hl]) (fun j c u hc hu => (each j c hc).2 u hu)
    · cases h2

/-- The results' values as one. -/
def wholeRes (vs : List Value) : Value := match vs with | [v] => v | vs => .tuple vs.toArray

theorem resAll_rep (R0 : Rel nm N S0 a w L0) (hH : NoH L0) {fg : Bool} {rvs : List ResultVar} {Rs : List RV} (hc : rvs.mapM (compR P) = some Rs) {r : V × List Wr} (hr : (resAll fg Rs).run S0 = some r) :
    ∃ (vs : List Value) (L' : LabF), Mid nm N S0 w L0 r.2 a w L' ∧ OnlyH L' ∧ RepV nm w L' (S0.wrs r.2).γ (.h 0) r.1 (wholeRes vs) ∧ vs.length = rvs.length ∧ ∀ (j : Nat) rv v, rvs[j]? = some rv → vs[j]? = some v → resVal P w a.tmps rv v := by
  have hl : Rs.length = rvs.length := by
    clear hr
    induction rvs generalizing Rs with
    | nil => have : Rs = [] := by simpa using hc.symm
             subst this; rfl
    | cons x t ih =>
      rw [List.mapM_cons] at hc
      obtain ⟨R, hc1, hc2⟩ := bind_some hc
      obtain ⟨Rt, hc3, hc4⟩ := bind_some hc2
      cases hc4
      simp [ih hc3]
  have many : ∀ {x : List V × List Wr}, (resVs [] Rs).run S0 = some x → ∃ (vs : List Value) (L' : LabF), Mid nm N S0 w L0 x.2 a w L' ∧ OnlyH L' ∧ x.1.length = vs.length ∧ cleanVs x.1 = true ∧ (∀ (j : Nat) y v, x.1[j]? = some y → vs[j]? = some v → RepV nm w L' (S0.wrs x.2).γ (.h 0) y v) ∧ vs.length = rvs.length ∧ ∀ (j : Nat) rv v, rvs[j]? = some rv → vs[j]? = some v → resVal P w a.tmps rv v := by
    intro x hx
    obtain ⟨vs, L', h1, h2, _, h3, h4, h5, h6, h7⟩ := resVs_rep R0 rvs (Mid.init R0) hH hc hx
    exact ⟨vs, L', h1, onlyH_noH h2, h3, h4, h5, h6, h7⟩
  unfold resAll at hr
  split at hr
  · rename_i R
    have hl1 : rvs.length = 1 := by rw [← hl]; rfl
    obtain ⟨rv, rfl⟩ := List.length_eq_one_iff.1 hl1
    split at hr
    · obtain ⟨⟨vs, ws⟩, h1, h2⟩ := Q.run_bind_some hr
      clear hr
      obtain ⟨us, L', k1, k2, k3, k4, k5, k6, k7⟩ := many h1
      dsimp only at h2 k1 k3 k4 k5
      split at h2
      · rename_i v
        obtain rfl := Q.run_pure_some h2
        obtain ⟨u, rfl⟩ := List.length_eq_one_iff.1 k3.symm
        exact ⟨[u], L', k1, k2, k5 0 v u rfl rfl, k6, k7⟩
      · cases h2
    · have hc1 : compR P rv = some R := by
        rw [List.mapM_cons] at hc
        obtain ⟨R', hc1, hc2⟩ := bind_some hc
        obtain ⟨Rt, hc3, hc4⟩ := bind_some hc2
        cases hc4
        exact hc1
      obtain ⟨v, L', k1, k2, k3, k4⟩ := resOne_rep R0 hH hc1 hr
      refine ⟨[v], L', k1, k2, k3, rfl, ?_⟩
      intro j rv' v' h1 h2
      cases j with
      | zero => simp at h1 h2; subst h1; subst h2; exact k4
      | succ j => simp at h1
  · rename_i hne
    obtain ⟨⟨vs, ws⟩, h1, h2⟩ := Q.run_bind_some hr
    clear hr
    obtain rfl := Q.run_pure_some h2
    obtain ⟨us, L', k1, k2, k3, k4, k5, k6, k7⟩ := many h1
    dsimp only at k1 k3 k4 k5 ⊢
    refine ⟨us, L', k1, k2, ?_, k6, k7⟩
    have : wholeRes us = .tuple us.toArray := by
      match us, k6 with
      | [], _ => rfl
      | [u], h => exact absurd (by rw [← h] at hl; exact List.length_eq_one_iff.1 hl) (by rintro ⟨R, rfl⟩; exact hne R rfl)
      | _ :: _ :: _, _ => rfl
    rw [this]
    exact .tup (by simpa using k3) k4 (fun i x u h1 h2 => k5 i x u h1 (by simpa using h2))

/-- The model's reading of the results. -/
theorem run_results {fn : Func} {vs : List Value} (hl : vs.length = fn.results.toList.length) (h : ∀ (j : Nat) rv v, fn.results.toList[j]? = some rv → vs[j]? = some v → resVal P w a.tmps rv v) :
    (results fn a.tmps).run P w = .ok (wholeRes vs) w := by
  have hm : ∀ (l : List ResultVar) (us : List Value), us.length = l.length → (∀ (j : Nat) rv v, l[j]? = some rv → us[j]? = some v → resVal P w a.tmps rv v) →
      (l.mapM fun (rv : ResultVar) => (match rv with | .tmp t => (pure (a.tmps.getD t undef) : Sem Value) | .cell ad t => do loadVar t (← asAddr (a.tmps.getD ad undef)))).run P w = Result.ok us w := by
    intro l
    induction l with
    | nil => intro us h1 _; have : us = [] := by simpa using h1
             subst this; rfl
    | cons rv l ih =>
      intro us h1 h2
      cases us with
      | nil => simp at h1
      | cons u us =>
        rw [List.mapM_cons, Sem.run_bind]
        have e1 := h2 0 rv u rfl rfl
        unfold resVal at e1
        rw [e1, Result.andThen_ok, Sem.run_bind, ih us (by simpa using h1) (fun j rv' v' g1 g2 => h2 (j + 1) rv' v' (by simpa using g1) (by simpa using g2)), Result.andThen_ok]
        rfl
  have e := hm fn.results.toList vs hl h
  unfold results
  rw [Array.mapM_eq_mapM_toList]
  rw [Sem.run_bind, map_eq_pure_bind, Sem.run_bind]
  refine (congrArg (fun r => Result.andThen (Result.andThen r _) _) e).trans ?_
  simp only [Result.andThen_ok]
  match vs with
  | [] => rfl
  | [u] => rfl
  | _ :: _ :: _ => rfl
end
end Go.Abs
