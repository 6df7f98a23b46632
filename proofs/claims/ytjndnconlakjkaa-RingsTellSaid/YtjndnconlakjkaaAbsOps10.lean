/- Operations: append, move, store, function values. -/
import Derived.Test.YtjndnconlakjkaaAbsOps9
set_option linter.unusedVariables false
set_option linter.unusedSimpArgs false
namespace Go.Abs
section
variable {nm : FuncId → Option Nat} {N : Nat} {S S0 : St} {a : Act} {w w0 : World} {L L0 : LabF} {P : Program} {o : Oper} {Cl : Oracle} {d : Nat} {r : V × List Wr} {ws : List Wr}

theorem ev_app (R : Rel nm N S a w L) (hH : NoH L) (hd : ∀ d, o.dst = some d → d < N) {x y : Operand} {X Y : Abs.X} {t u e : TypeId} {sz bytes : Nat} {i : TypeInfo} {dd : TypeDesc} {z : Value} (hx : OpRel nm X x) (hxo : X.okC = true) (hy : OpRel nm Y y) (hyo : Y.okC = true)
    (ho : o.op = .call ⟨.builtin .append, #[x, y], #[t, u]⟩) (T : AppT P sz bytes t u e i dd z) (hr : (evOp Cl d (.app sz bytes X Y)).run S = some r) : OpsTo P a w o (Aft nm N S w L a o.dst r.1 r.2) := by
  simp only [evOp] at hr
  obtain ⟨⟨av, ws1⟩, h1, h2⟩ := Q.run_bind_some hr
  clear hr
  obtain ⟨⟨src, ws2⟩, h3, h4⟩ := Q.run_bind_some h2
  clear h2
  obtain ⟨⟨v, ws3⟩, h5, h6⟩ := Q.run_bind_some h4
  clear h4
  obtain ⟨L1, O1, V1⟩ := tk_rep (Mid.init R) R (hH.free 1) hyo hy h1
  dsimp only at h3 h5 h6 V1 O1
  unfold rowsOf at h3
  split at h3
  · rename_i c
    obtain ⟨⟨c', ws2'⟩, h7, h8⟩ := Q.run_bind_some h3
    have hV : LimC nm w L S.γ w L1 (S.wrs ws1).γ 1 0 c (a.eval y) := V1
    obtain ⟨L2, O2, R2⟩ := st_rep O1.mid hV h7
    dsimp only at h8
    split at h8
    · rename_i tg sz' rows
      obtain ⟨hg, h9⟩ := Q.run_guard_some h8
      have h10 := Q.run_pure_some h9
      simp only [Prod.mk.injEq] at h10
      obtain ⟨rfl, rfl⟩ := h10
      have hsz : sz' = sz ∨ src = [] := by simpa using hg
      have hf0 : FreeH L2 0 := O2.free (O1.free (hH.free 0) (by omega)) (by omega)
      obtain ⟨L3, O3, V3⟩ := tk_rep O2.mid R hf0 hxo hx h5
      have R3 := RepC.keep (m := 1) (j := 0) O3.keep (fun _ => trivial) R2
      obtain ⟨news, val2, g1, g2, g3, g4⟩ := rows_src (P := P) (sz := sz) R3 hsz
      obtain ⟨v', w', g5, g6⟩ := appTo_rep (ty := o.type) O3.mid T V3 g1 g2 g3 g4 h6 hd
      refine .val ?_ g6
      rw [execOp_builtin ho, show (#[x, y] : Array Operand).map a.eval = #[a.eval x, a.eval y] from by simp]
      exact run_v g5
    · cases h8
  · cases h3

theorem ev_appS (R : Rel nm N S a w L) (hH : NoH L) (hd : ∀ d, o.dst = some d → d < N) {x y : Operand} {X Y : Abs.X} {t u e : TypeId} {i : TypeInfo} {dd : TypeDesc} {z : Value} (hx : OpRel nm X x) (hxo : X.okC = true) (hy : OpRel nm Y y)
    (ho : o.op = .call ⟨.builtin .append, #[x, y], #[t, u]⟩) (T : AppT P 1 1 t u e i dd z) (hr : (evOp Cl d (.appS X Y)).run S = some r) : OpsTo P a w o (Aft nm N S w L a o.dst r.1 r.2) := by
  simp only [evOp] at hr
  obtain ⟨av, h1, h2⟩ := Q.run_bind_some hr
  clear hr
  have r1 := rd_val R hy h1
  split at h2
  · rename_i s
    obtain ⟨⟨v, ws3⟩, h5, h6⟩ := Q.run_bind_some h2
    clear h2
    obtain ⟨L3, O3, V3⟩ := tk_rep (Mid.init R) R (hH.free 0) hxo hx h5
    have e1 := r1.one_inv.str_inv
    have hsrc : Src P 1 w (.string ⟨s.toArray⟩) (D.strB s).length (strCells s) := by
      refine ⟨fun w' => by simp [Builtin.lenOf, bytes_size, strB_len], fun w' _ => ?_, by simp [strCells, strB_len], ?_⟩
      · simp only [Builtin.firstCells, strB_len]
        have hex : (⟨s.toArray⟩ : ByteArray).extract 0 s.length = ⟨s.toArray⟩ := by
          apply ByteArray.ext
          rw [ByteArray.data_extract]
          apply Array.ext'
          simp
        rw [hex]
        have : (⟨s.toArray⟩ : ByteArray).data.map (fun b => Value.int .u8 b.toNat) = strCells s := by
          apply Array.ext'; simp [strCells]
        rw [this]
        rfl
      · intro u hu
        simp only [strCells, List.mem_toArray, List.mem_map] at hu
        obtain ⟨b, _, rfl⟩ := hu
        rfl
    obtain ⟨v', w', g5, g6⟩ := appTo_rep (ty := o.type) O3.mid T V3 hsrc (strB_lens s) (val2 := fun i _ => Value.int .u8 (((s.getD i 0).toNat : Nat) : Int)) (fun i c x hx => by
        obtain ⟨b, g1, rfl, rfl⟩ := strB_cell hx
        simp only [List.getD_eq_getElem?_getD, g1, Option.getD_some]
        exact .plain .int) (fun i c x hx => by
        obtain ⟨b, g1, rfl, rfl⟩ := strB_cell hx
        rw [Nat.zero_add, Nat.mul_one, Nat.add_zero]
        simp [strCells, List.getD_eq_getElem?_getD, g1]) h6 hd
    refine .val ?_ g6
    rw [execOp_builtin ho, show (#[x, y] : Array Operand).map a.eval = #[a.eval x, a.eval y] from by simp, e1]
    exact run_v g5
  · cases h2

theorem ev_mov (R : Rel nm N S a w L) (hH : NoH L) (hd : ∀ d, o.dst = some d → d < N) {x : Operand} {X : Abs.X} (hx : OpRel nm X x) (hxo : X.okC = true) (ho : o.op = .move x ∨ o.op = .assign x)
    (hr : (evOp Cl d (.mov X)).run S = some r) : OpsTo P a w o (Aft nm N S w L a o.dst r.1 r.2) := by
  simp only [evOp] at hr
  obtain ⟨⟨v, ws1⟩, h1, h2⟩ := Q.run_bind_some hr
  clear hr
  obtain ⟨L1, O1, V1⟩ := tk_rep (Mid.init R) R (hH.free 0) hxo hx h1
  have hex : (execOp a.eval o).run P w = .ok (.value (a.eval x)) w := by rcases ho with ho | ho <;> simp [execOp, ho]
  refine .val hex ?_
  have plain : ∀ {r : V × List Wr}, (pure (v, ws1) : Q (V × List Wr)).run S = some r → Aft nm N S w L a o.dst r.1 r.2 (a.eval x) w := by
    intro r h
    obtain rfl := Q.run_pure_some h
    exact O1.mid.rel.aft O1.mid.mono hd (V1.rep O1.mid.stp)
  simp only at h2
  unfold movTo at h2
  split at h2
  · rename_i pl g aa sz rows
    obtain ⟨⟨c, ws2⟩, h3, h4⟩ := Q.run_bind_some h2
    obtain rfl := Q.run_pure_some h4
    obtain ⟨L2, O2, R2⟩ := settle_rep (m := 0) (j := 0) O1.mid V1 h3
    exact O2.mid.rel.aft O2.mid.mono hd (m := 0) (.one R2)
  · rename_i pl g sz off len
    split at h2
    · obtain ⟨⟨c, ws2⟩, h3, h4⟩ := Q.run_bind_some h2
      obtain rfl := Q.run_pure_some h4
      obtain ⟨L2, O2, R2⟩ := st_rep (m := 0) (j := 0) (c := .view pl g sz off len) (v := a.eval x) O1.mid V1 h3
      exact O2.mid.rel.aft O2.mid.mono hd (m := 0) (.one R2)
    · exact plain h2
  · exact plain h2

theorem putCells_rep {m : Nat} {mv : Bool} {r : Root} : ∀ (cs : List C) {ws : List Wr} {L : LabF} (M : Mid nm N S0 w0 L0 ws a w L) (j0 c0 : Nat) (vs : Nat → Value)
    (hc : ∀ j c, cs[j]? = some c → LimC nm w0 L0 S0.γ w L (S0.wrs ws).γ m (j0 + j) c (vs (j0 + j))) {rr : List C × List Wr} (hr : (putCells mv r ws c0 cs).run S0 = some rr),
    ∃ L', Out nm N S0 w0 L0 ws rr.2 a w L L' (fun q => ¬ (q.k = .h m ∧ j0 ≤ q.j)) m ∧ rr.1.length = cs.length ∧ (∀ c ∈ cs, c ≠ .dead) ∧
      ∀ j c, rr.1[j]? = some c → RepC nm w L' (S0.wrs rr.2).γ (.h m) (j0 + j) c (vs (j0 + j))
  | [], ws, L, M, j0, c0, vs, hc, rr, hr => by
    simp only [putCells] at hr
    obtain rfl := Q.run_pure_some hr
    exact ⟨L, Out.refl M _ m, rfl, fun c h => by simp at h, fun j c h => by simp at h⟩
  | c :: cs, ws, L, M, j0, c0, vs, hc, rr, hr => by
    simp only [putCells] at hr
    obtain ⟨⟨c1, ws1⟩, h1, h2⟩ := Q.run_bind_some hr
    clear hr
    obtain ⟨⟨cs2, ws2⟩, h3, h4⟩ := Q.run_bind_some h2
    clear h2
    obtain rfl := Q.run_pure_some h4
    have hcc := hc 0 c rfl
    have hlive : c ≠ .dead := by
      rintro rfl
      cases mv <;> simp [putCell, stMv, stAt, st] at h1
    obtain ⟨L1, O1, R1⟩ : ∃ L', Out nm N S0 w0 L0 ws ws1 a w L L' (fun q => ¬ (q.k = .h m ∧ q.j = j0)) m ∧ RepC nm w L' (S0.wrs ws1).γ (.h m) j0 c1 (vs j0) := by
      cases mv with
      | true => exact stMv_rep M hcc h1
      | false => exact stAt_rep M hcc h1
    obtain ⟨L2, O2, hl, hlv, R2⟩ := putCells_rep cs O1.mid (j0 + 1) (c0 + 1) vs (fun j c h => by
      have := hc (j + 1) c (by simpa using h)
      have := this.keep O1.keep (fun p => by simp)
      rwa [show j0 + 1 + j = j0 + (j + 1) by omega]) h3
    refine ⟨L2, (O1.weaken ?_).trans (O2.weaken ?_), by simp [hl], ?_, ?_⟩
    · intro q hq h; exact hq ⟨h.1, by omega⟩
    · intro q hq h; exact hq ⟨h.1, by omega⟩
    · intro y hy
      rcases List.mem_cons.1 hy with rfl | hy
      · exact hlive
      · exact hlv y hy
    · intro j y hj
      cases j with
      | zero =>
        simp only [List.getElem?_cons_zero, Option.some.injEq] at hj
        subst hj
        exact R1.keep O2.keep (fun p => by simp)
      | succ j =>
        have := R2 j y (by simpa using hj)
        rwa [show j0 + 1 + j = j0 + (j + 1) by omega] at this

theorem fitRow_rep {m : Nat} {Pl : Place} {i : Nat} : ∀ (cs : List C) {ws : List Wr} {L : LabF} (M : Mid nm N S0 w0 L0 ws a w L) (j0 c0 : Nat) (vs : Nat → Value)
    (hc : ∀ j c, cs[j]? = some c → LimC nm w0 L0 S0.γ w L (S0.wrs ws).γ m (j0 + j) c (vs (j0 + j))) {rr : List D × List Wr} (hr : (fitRow Pl i ws c0 cs).run S0 = some rr),
    ∃ L', Out nm N S0 w0 L0 ws rr.2 a w L L' (fun q => ¬ (q.k = .h m ∧ j0 ≤ q.j)) m ∧ rr.1.length = cs.length ∧ (∀ c ∈ cs, c ≠ .dead) ∧
      ∀ j c, rr.1[j]? = some c → RepC nm w L' (S0.wrs rr.2).γ (.h m) (j0 + j) (.d c) (vs (j0 + j))
  | [], ws, L, M, j0, c0, vs, hc, rr, hr => by
    simp only [fitRow] at hr
    obtain rfl := Q.run_pure_some hr
    exact ⟨L, Out.refl M _ m, rfl, fun c h => by simp at h, fun j c h => by simp at h⟩
  | c :: cs, ws, L, M, j0, c0, vs, hc, rr, hr => by
    simp only [fitRow] at hr
    obtain ⟨⟨c1, ws1⟩, h1, h2⟩ := Q.run_bind_some hr
    clear hr
    have hcc := hc 0 c rfl
    have hlive : c ≠ .dead := by
      rintro rfl
      simp [stAt, st] at h1
    obtain ⟨L1, O1, R1⟩ := stAt_rep M hcc h1
    simp only at h2
    split at h2
    · rename_i z
      obtain ⟨⟨cs2, ws2⟩, h3, h4⟩ := Q.run_bind_some h2
      clear h2
      obtain rfl := Q.run_pure_some h4
      obtain ⟨L2, O2, hl, hlv, R2⟩ := fitRow_rep cs O1.mid (j0 + 1) (c0 + 1) vs (fun j c h => by
        have := hc (j + 1) c (by simpa using h)
        have := this.keep O1.keep (fun p => by simp)
        rwa [show j0 + 1 + j = j0 + (j + 1) by omega]) h3
      refine ⟨L2, (O1.weaken ?_).trans (O2.weaken ?_), by simp [hl], ?_, ?_⟩
      · intro q hq h; exact hq ⟨h.1, by omega⟩
      · intro q hq h; exact hq ⟨h.1, by omega⟩
      · intro y hy
        rcases List.mem_cons.1 hy with rfl | hy
        · exact hlive
        · exact hlv y hy
      · intro j y hj
        cases j with
        | zero =>
          simp only [List.getElem?_cons_zero, Option.some.injEq] at hj
          subst hj
          exact R1.keep O2.keep (fun p => by simp)
        | succ j =>
          have := R2 j y (by simpa using hj)
          rwa [show j0 + 1 + j = j0 + (j + 1) by omega] at this
    · cases h2

theorem ev_store (R : Rel nm N S a w L) (hH : NoH L) (hd : ∀ d, o.dst = some d → d < N) {x v : Operand} {X V' : Abs.X} {t : TypeId} {mv : Bool} {n : Nat} (hx : OpRel nm X x) (hv : OpRel nm V' v) (hvo : V'.okC = true)
    (ho : o.op = .store t x v) (ht : szOf P t = some n) (hn : n ≠ 0) (hr : (evOp Cl d (.store mv n X V')).run S = some r) : OpsTo P a w o (Aft nm N S w L a o.dst r.1 r.2) := by
  simp only [evOp] at hr
  obtain ⟨p, h1, h2⟩ := Q.run_bind_some hr
  clear hr
  obtain ⟨⟨vv, ws1⟩, h3, h4⟩ := Q.run_bind_some h2
  clear h2
  obtain ⟨hg, h5⟩ := Q.run_guard_some h4
  clear h4
  simp only [beq_iff_eq] at hg
  have rp := rd_val R hx h1
  obtain ⟨L1, O1, V1⟩ := tk_rep (Mid.init R) R (hH.free 0) hvo hv h3
  dsimp only at V1 O1 hg h5
  have hnt : ∀ vs, vv ≠ .tup vs := by rintro vs rfl; exact hn (by rw [← hg]; rfl)
  have run : ∀ (B o' : Nat), a.eval x = .pointer (some ⟨B, o', none⟩) → (a.eval v).cells.size = n → (∀ j, j < n → (w.cell? ⟨B, o' + j, none⟩).isSome = true) → (∀ j, j < n → w.frozen? ⟨B, o' + j, none⟩ = false) → (∀ u ∈ (a.eval v).cells.toList, u.oneCell' = true) →
      (execOp a.eval o).run P w = .ok .skip (w.setCells B o' (a.eval v).cells.toList) := by
    intro B o' hb hs hc hf h1
    have hst := run_storeCells_cells (P := P) B o' (a.eval v).cells.toList 0 w (by simpa [hs] using hc) (by simpa [hs] using hf) h1
    simp only [Nat.add_zero] at hst
    have : (Instr.storeAt t (a.eval x) (a.eval v)).run P w = .ok () (w.setCells B o' (a.eval v).cells.toList) := by
      rw [hb]
      simp [Instr.storeAt, Instr.sureAddr, storeVar, run_sizeOf' ht, hs, hst]
    simp [execOp, ho, this]
  have limc : ∀ (hlv : ∀ c ∈ vv.cells, c ≠ .dead), (a.eval v).cells.size = n ∧ (∀ j c, vv.cells[j]? = some c → LimC nm w L S.γ w L1 (S.wrs ws1).γ 0 (0 + j) c ((a.eval v).cells.getD (0 + j) undef)) ∧ (∀ u ∈ (a.eval v).cells.toList, u.oneCell' = true) := by
    intro hlv
    obtain ⟨c1, c2⟩ := V1.cells O1.mid.stp hnt hlv
    refine ⟨by omega, fun j c hc => ?_, fun u hu => ?_⟩
    · have hj : j < (a.eval v).cells.size := by rw [← c1]; exact (List.getElem?_eq_some_iff.1 hc).1
      have := c2 j c _ hc (Array.getElem?_eq_getElem hj)
      simpa [Array.getD, hj] using this
    · obtain ⟨j, hj, hju⟩ := List.mem_iff_getElem.1 hu
      have hj' : j < (a.eval v).cells.size := by simpa using hj
      have hcj : j < vv.cells.length := by omega
      have := c2 j vv.cells[j] u (by simp) (by rw [Array.getElem?_eq_getElem hj']; simpa using hju)
      exact (this.rep O1.mid.stp).oneCell (hlv _ (List.getElem_mem hcj))
  split at h5
  · -- a box
    rename_i r0 g c
    obtain ⟨⟨cs, ws2⟩, h6, h7⟩ := Q.run_bind_some h5
    clear h5
    rw [Q.run_bind, atP_run, Option.bind_some] at h7
    obtain ⟨hg2, h8⟩ := Q.run_guard_some h7
    clear h7
    obtain rfl := Q.run_pure_some h8
    simp only [Bool.and_eq_true, Bool.not_eq_true', beq_iff_eq, decide_eq_true_eq] at hg2
    obtain ⟨⟨hG, hgg⟩, hcn⟩ := hg2
    -- the cells are live: put them
    have hlive : ∀ c ∈ vv.cells, c ≠ .dead := by
      have aux : ∀ (l : List C) (ws : List Wr) (c0 : Nat) (rr : List C × List Wr), (putCells mv r0 ws c0 l).run S = some rr → ∀ c ∈ l, c ≠ .dead := by
        intro l
        induction l with
        | nil => intro ws c0 rr _ c hc; simp at hc
        | cons y l ih =>
          intro ws c0 rr h c hc
          simp only [putCells] at h
          obtain ⟨r1, g1, g2⟩ := Q.run_bind_some h
          obtain ⟨r2, g3, _⟩ := Q.run_bind_some g2
          rcases List.mem_cons.1 hc with rfl | hc
          · rintro rfl
            cases mv <;> simp [putCell, stMv, stAt, st] at g1
          · exact ih _ _ _ g3 c hc
      exact aux _ _ _ _ h6
    obtain ⟨hs, hlim, hone⟩ := limc hlive
    obtain ⟨L2, O2, hl2, _, R2⟩ := putCells_rep (m := 0) vv.cells O1.mid 0 c (fun j => (a.eval v).cells.getD j undef) hlim h6
    have hl2' : cs.length = vv.cells.length := hl2
    dsimp only at O2 R2 hl2
    cases rp.one_inv with
    | ptr hv0 hgl hp =>
      obtain ⟨B, o', hB, hval⟩ := hp hgg.symm
      have hB2 := O2.mid.boxes B r0 o' hB
      obtain ⟨B', o'', cur, e, fz, k1, k2, k3, k4⟩ := O2.mid.rel.room r0 hG (by omega)
      obtain rfl := O2.mid.rel.boxInj B' B r0 o'' o' k1 hB2
      obtain rfl : o'' = o' := by rw [k1] at hB2; simpa using hB2
      obtain ⟨L3, hR, hM, _, _⟩ := Rel.boxSets (m := 0) hG cs (a.eval v).cells.toList 0 c (S := S) (ws := ws2) O2.mid.rel hB2 (by simp; omega) (by omega) (by
        intro j y u hy hu
        have := R2 j y hy
        rw [Array.getElem?_toList] at hu
        simpa [Array.getD_eq_getD_getElem?, hu] using this)
      refine .skip (run B' (o'' + c) hval hs (fun j hj => ?_) (fun j hj => ?_) hone) (hR.aft (O2.mid.mono.trans hM) hd (m := 0) (.tup (us := #[]) rfl rfl (fun i x u h => by simp at h)))
      · rw [cell?_of k2]; simp; omega
      · exact frozen?_of k2 k3 (by omega)
  · -- a row
    rename_i pl g sz i c
    obtain ⟨⟨zs, ws2⟩, h6, h7⟩ := Q.run_bind_some h5
    clear h5
    obtain ⟨⟨e, x0, rows⟩, h8, h9⟩ := Q.run_bind_some h7
    clear h7
    obtain ⟨rfl, hgg, hE, hnv⟩ := ownAt_run h8
    obtain ⟨row, hrow, h10⟩ := Q.run_ofO_some h9
    clear h9
    obtain ⟨hg2, h11⟩ := Q.run_guard_some h10
    clear h10
    simp only [decide_eq_true_eq] at hg2
    obtain ⟨ws3, hws, h12⟩ := Q.run_ofO_some h11
    clear h11
    obtain rfl := Q.run_pure_some h12
    have hlive : ∀ c ∈ vv.cells, c ≠ .dead := by
      have aux : ∀ (l : List C) (ws : List Wr) (c0 : Nat) (rr : List D × List Wr), (fitRow pl i ws c0 l).run S = some rr → ∀ c ∈ l, c ≠ .dead := by
        intro l
        induction l with
        | nil => intro ws c0 rr _ c hc; simp at hc
        | cons y l ih =>
          intro ws c0 rr h c hc
          simp only [fitRow] at h
          obtain ⟨⟨y1, wsy⟩, g1, g2⟩ := Q.run_bind_some h
          rcases List.mem_cons.1 hc with rfl | hc
          · rintro rfl
            simp [stAt, st] at g1
          · simp only at g2
            split at g2
            · obtain ⟨r2, g3, _⟩ := Q.run_bind_some g2
              exact ih _ _ _ g3 c hc
            · cases g2
      exact aux _ _ _ _ h6
    obtain ⟨hs, hlim, hone⟩ := limc hlive
    obtain ⟨L2, O2, hl2, _, R2⟩ := fitRow_rep (m := 0) vv.cells O1.mid 0 c (fun j => (a.eval v).cells.getD j undef) hlim h6
    have hl2' : zs.length = vv.cells.length := hl2
    dsimp only at O2 R2 hl2
    cases rp.one_inv with
    | eptr hv0 hh hgl hp =>
      obtain ⟨B, o', hB, hval⟩ := hp hgg
      obtain ⟨u0, hu0⟩ := O2.mid.at_own hh hE hnv
      rcases hu0.own_inv with ⟨hnil, _⟩ | ⟨B', o'', cap, cur, e', fz, val, _, hsz, hL', hB', hfz, hlens, hcap, hroom, hvalc, hrr⟩
      · rw [hnil] at hrow; simp at hrow
      have hL0 := O2.mid.rows B' pl o'' hh hL'
      obtain rfl := O2.mid.inj0 B' B pl o'' o' hL0 hB
      obtain rfl : o'' = o' := by rw [hL0] at hB; simpa using hB
      dsimp only at hcap hlens hL' hB' hvalc hnv hE hrow hws
      have hi : i < rows.length := (List.getElem?_eq_some_iff.1 hrow).1
      have hrl : row.length = sz := hlens row (List.mem_of_getElem? hrow)
      have hidx : i * sz + sz ≤ cap * sz := by
        have : (i + 1) * sz ≤ cap * sz := Nat.mul_le_mul_right _ (by omega)
        rwa [Nat.add_mul, Nat.one_mul] at this
      obtain ⟨L3, hR, hM, _⟩ := Rel.elSets (m := 0) (sz := sz) (i := i) hh zs (a.eval v).cells.toList 0 c x0 (S0 := S) (ws := ws2) (ws' := ws3) O2.mid.rel hE ⟨rows, hnv⟩ hL' (by simp; omega) hws (by
        intro j y u hy hu
        have := R2 j y hy
        rw [Array.getElem?_toList] at hu
        simpa [Array.getD_eq_getD_getElem?, hu] using this)
      refine .skip (run B' (o'' + i * sz + c) hval hs (fun j hj => ?_) (fun j hj => ?_) hone) (hR.aft (O2.mid.mono.trans hM) hd (m := 0) (.tup (us := #[]) rfl rfl (fun i x u h => by simp at h)))
      · rw [cell?_of hB']; simp; omega
      · exact frozen?_of hB' hfz (by omega)
  · cases h5

theorem st_clean {c : C} {k : Key} {j : Nat} {v : Value} {γ : Key → Nat} {rr : C × List Wr} (h : (st ws c).run S = some rr) (hc : c.clean = true) : rr.1.clean = true := by
  cases c with
  | view pl g sz off len =>
    simp only [st] at h
    obtain ⟨res, h1, h2⟩ := Q.run_bind_some h
    obtain ⟨_, h3⟩ := Q.run_guard_some h2
    obtain rfl := Q.run_pure_some h3
    rfl
  | appd => simp [C.clean] at hc
  | eptr => simp [st] at h
  | dead => simp [st] at h
  | _ => simp only [st] at h; obtain rfl := Q.run_pure_some h; exact hc

theorem fnCells_rep (R0 : Rel nm N S0 a w0 L0) : ∀ (xs : List Abs.X) (ps : List Operand) {ws : List Wr} {L : LabF} (M : Mid nm N S0 w0 L0 ws a w L) (hp : xs.length = ps.length) (hx : ∀ (j : Nat) X x, xs[j]? = some X → ps[j]? = some x → OpRel nm X x ∧ X.okC = true) {rr : List C × List Wr} (hr : (fnCells ws xs).run S0 = some rr),
    ∃ L', Out nm N S0 w0 L0 ws rr.2 a w L L' (fun q => q.k ≠ .h 0) 0 ∧ rr.1.length = xs.length ∧ cleanL rr.1 = true ∧ ∀ (j : Nat) c x, rr.1[j]? = some c → ps[j]? = some x → RepC nm w L' (S0.wrs rr.2).γ (.h 0) 0 c (a.eval x)
  | [], [], ws, L, M, hp, hx, rr, hr => by
    simp only [fnCells] at hr
    obtain rfl := Q.run_pure_some hr
    exact ⟨L, Out.refl M _ 0, rfl, rfl, fun j c x h => by simp at h⟩
  | X :: xs, x :: ps, ws, L, M, hp, hx, rr, hr => by
    simp only [fnCells] at hr
    obtain ⟨v, h1, h2⟩ := Q.run_bind_some hr
    clear hr
    obtain ⟨hX, hXo⟩ := hx 0 X x rfl rfl
    have rv := rd_val R0 hX h1
    have hcl := rd_own hXo h1
    split at h2
    · rename_i c
      obtain ⟨⟨c1, ws1⟩, h3, h4⟩ := Q.run_bind_some h2
      clear h2
      obtain ⟨⟨cs, ws2⟩, h5, h6⟩ := Q.run_bind_some h4
      clear h4
      obtain rfl := Q.run_pure_some h6
      have hco : c.own = false := own_get (j := 0) hcl rfl
      have hcc : c.clean = true := rv.one_inv.clean_of hco
      obtain ⟨L1, O1, R1⟩ := st_rep (m := 0) (j := 0) M (LimC.of_rep M.stp rv.one_inv hco) h3
      obtain ⟨L2, O2, hl, hcl2, R2⟩ := fnCells_rep R0 xs ps O1.mid (by simpa using hp) (fun j X x h1 h2 => hx (j + 1) X x (by simpa using h1) (by simpa using h2)) h5
      have hc1 : c1.clean = true := st_clean (k := .h 0) (j := 0) (v := undef) (γ := S0.γ) h3 hcc
      refine ⟨L2, (O1.weaken (fun q hq h => hq h.1)).trans O2, by simp [hl], by simp [cleanL, hc1, hcl2], ?_⟩
      intro j y z hj hz
      cases j with
      | zero =>
        simp only [List.getElem?_cons_zero, Option.some.injEq] at hj hz
        subst hj; subst hz
        exact R1.stepClean O2.stp hc1 _ _
      | succ j => exact R2 j y z (by simpa using hj) (by simpa using hz)
    · cases h2
  | [], _ :: _, _, _, _, hp, _, _, _ => by simp at hp
  | _ :: _, [], _, _, _, hp, _, _, _ => by simp at hp

theorem ev_mkfn (R : Rel nm N S a w L) (hH : NoH L) (hd : ∀ d, o.dst = some d → d < N) {fid f : Nat} {first cap : Array Operand} {xs ys : List Abs.X} (hf : nm fid = some f) (hp1 : xs.length = first.toList.length) (hx1 : ∀ (j : Nat) X x, xs[j]? = some X → first.toList[j]? = some x → OpRel nm X x ∧ X.okC = true)
    (hp2 : ys.length = cap.toList.length) (hx2 : ∀ (j : Nat) X x, ys[j]? = some X → cap.toList[j]? = some x → OpRel nm X x ∧ X.okC = true) (ho : o.op = .makeFunc (.func fid) first cap)
    (hr : (evOp Cl d (.mkfn f xs ys)).run S = some r) : OpsTo P a w o (Aft nm N S w L a o.dst r.1 r.2) := by
  simp only [evOp] at hr
  obtain ⟨⟨fa, ws1⟩, h1, h2⟩ := Q.run_bind_some hr
  clear hr
  obtain ⟨⟨fb, ws2⟩, h3, h4⟩ := Q.run_bind_some h2
  clear h2
  obtain rfl := Q.run_pure_some h4
  obtain ⟨L1, O1, hl1, hc1, R1⟩ := fnCells_rep R xs first.toList (Mid.init R) hp1 hx1 h1
  obtain ⟨L2, O2, hl2, hc2, R2⟩ := fnCells_rep R ys cap.toList O1.mid hp2 hx2 h3
  have hl1' : fa.length = xs.length := hl1
  have hl2' : fb.length = ys.length := hl2
  refine .val (v := .func (.func fid) (first.map a.eval) (cap.map a.eval)) (w' := w) ?_ (O2.mid.rel.aft O2.mid.mono hd (m := 0) (.one (.fn hf (by simp; simp at hp1; omega) (by simp; simp at hp2; omega) ⟨hc1, hc2⟩ ?_ ?_)))
  · simp [execOp, ho, Instr.makeFunc]
  · intro j x u h5 h6
    rw [Array.getElem?_map] at h6
    cases hj : first[j]? with
    | none => simp [hj] at h6
    | some y =>
      simp only [hj, Option.map_some, Option.some.injEq] at h6
      subst h6
      exact (R1 j x y h5 (by rw [Array.getElem?_toList]; exact hj)).stepClean O2.stp (cleanL_get hc1 h5) _ _
  · intro j x u h5 h6
    rw [Array.getElem?_map] at h6
    cases hj : cap[j]? with
    | none => simp [hj] at h6
    | some y =>
      simp only [hj, Option.map_some, Option.some.injEq] at h6
      subst h6
      exact R2 j x y h5 (by rw [Array.getElem?_toList]; exact hj)
end
end Go.Abs
