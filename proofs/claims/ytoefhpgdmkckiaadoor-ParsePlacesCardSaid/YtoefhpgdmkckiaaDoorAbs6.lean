/- An evaluator of the model's code over plain data, and that what it answers the model does: part 7 of 10. -/
import Derived.Test.YtoefhpgdmkckiaaDoorAbs5
import Derived.Orders
section
/- Operations: append, move, store, function values. -/
set_option linter.unusedVariables false
set_option linter.unusedSimpArgs false
namespace Go.Abs
section
variable {nm : FuncId → Option Nat} {N : Nat} {S S0 : St} {a : Act} {w w0 : World} {L L0 : LabF} {P : Program} {o : Oper} {Cl : Oracle} {d : Nat} {r : V × List Wr} {ws : List Wr}

theorem ev_app (R : Rel nm N S a w L) (hH : NoH L) (hd : ∀ d, o.dst = some d → d < N) {x y : Operand} {X Y : Abs.X} {t u e : TypeId} {sz bytes : Nat} {i : TypeInfo} {dd : TypeDesc} {z : Value} (hx : OpRel nm X x) (hxo : X.okC = true) (hy : OpRel nm Y y) (hyo : Y.okC = true)
    (ho : o.op = .call ⟨.builtin .append, #[x, y], #[t, u]⟩) (T : AppT P sz bytes t u e i dd z) (hr : (evOp Cl d (.app sz bytes X Y)).run S = some r) : OpsTo P a w o (Aft nm N S w L a o.dst r.1 r.2) := by
  simp only [evOp] at hr
  obtain ⟨⟨av, ws1⟩, h1, h2⟩ := Q.run_bind_some hr
  clear hr
  obtain ⟨⟨src, ws2⟩, h3, h4⟩ := Q.run_bind_some h2
  clear h2
  obtain ⟨⟨v, ws3⟩, h5, h6⟩ := Q.run_bind_some h4
  clear h4
  obtain ⟨L1, O1, V1⟩ := tk_rep (Mid.init R) R (hH.free 1) hyo hy h1
  dsimp only at h3 h5 h6 V1 O1
  unfold rowsOf at h3
  split at h3
  · rename_i c
    obtain ⟨⟨c', ws2'⟩, h7, h8⟩ := Q.run_bind_some h3
    have hV : LimC nm w L S.γ w L1 (S.wrs ws1).γ 1 0 c (a.eval y) := V1
    obtain ⟨L2, O2, R2⟩ := st_rep O1.mid hV h7
    dsimp only at h8
    split at h8
    · rename_i tg sz' rows
      obtain ⟨hg, h9⟩ := Q.run_guard_some h8
      have h10 := Q.run_pure_some h9
      simp only [Prod.mk.injEq] at h10
      obtain ⟨rfl, rfl⟩ := h10
      have hsz : sz' = sz ∨ src = [] := by simpa using hg
      have hf0 : FreeH L2 0 := O2.free (O1.free (hH.free 0) (by omega)) (by omega)
      obtain ⟨L3, O3, V3⟩ := tk_rep O2.mid R hf0 hxo hx h5
      have R3 := RepC.keep (m := 1) (j := 0) O3.keep (fun _ => trivial) R2
      obtain ⟨news, val2, g1, g2, g3, g4⟩ := rows_src (P := P) (sz := sz) R3 hsz
      obtain ⟨v', w', g5, g6⟩ := appTo_rep (ty := o.type) O3.mid T V3 g1 g2 g3 g4 h6 hd
      refine .val ?_ g6
      rw [execOp_builtin ho, show (#[x, y] : Array Operand).map a.eval = #[a.eval x, a.eval y] from by simp]
      exact run_v g5
    · cases h8
  · cases h3

theorem ev_appS (R : Rel nm N S a w L) (hH : NoH L) (hd : ∀ d, o.dst = some d → d < N) {x y : Operand} {X Y : Abs.X} {t u e : TypeId} {i : TypeInfo} {dd : TypeDesc} {z : Value} (hx : OpRel nm X x) (hxo : X.okC = true) (hy : OpRel nm Y y)
    (ho : o.op = .call ⟨.builtin .append, #[x, y], #[t, u]⟩) (T : AppT P 1 1 t u e i dd z) (hr : (evOp Cl d (.appS X Y)).run S = some r) : OpsTo P a w o (Aft nm N S w L a o.dst r.1 r.2) := by
  simp only [evOp] at hr
  obtain ⟨av, h1, h2⟩ := Q.run_bind_some hr
  clear hr
  have r1 := rd_val R hy h1
  split at h2
  · rename_i s
    obtain ⟨⟨v, ws3⟩, h5, h6⟩ := Q.run_bind_some h2
    clear h2
    obtain ⟨L3, O3, V3⟩ := tk_rep (Mid.init R) R (hH.free 0) hxo hx h5
    have e1 := r1.one_inv.str_inv
    have hsrc : Src P 1 w (.string ⟨s.toArray⟩) (D.strB s).length (strCells s) := by
      refine ⟨fun w' => by simp [Builtin.lenOf, bytes_size, strB_len], fun w' _ => ?_, by simp [strCells, strB_len], ?_⟩
      · simp only [Builtin.firstCells, strB_len]
        have hex : (⟨s.toArray⟩ : ByteArray).extract 0 s.length = ⟨s.toArray⟩ := by
          apply ByteArray.ext
          rw [ByteArray.data_extract]
          apply Array.ext'
          simp
        rw [hex]
        have : (⟨s.toArray⟩ : ByteArray).data.map (fun b => Value.int .u8 b.toNat) = strCells s := by
          apply Array.ext'; simp [strCells]
        rw [this]
        rfl
      · intro u hu
        simp only [strCells, List.mem_toArray, List.mem_map] at hu
        obtain ⟨b, _, rfl⟩ := hu
        rfl
    obtain ⟨v', w', g5, g6⟩ := appTo_rep (ty := o.type) O3.mid T V3 hsrc (strB_lens s) (val2 := fun i _ => Value.int .u8 (((s.getD i 0).toNat : Nat) : Int)) (fun i c x hx => by
        obtain ⟨b, g1, rfl, rfl⟩ := strB_cell hx
        simp only [List.getD_eq_getElem?_getD, g1, Option.getD_some]
        exact .plain .int) (fun i c x hx => by
        obtain ⟨b, g1, rfl, rfl⟩ := strB_cell hx
        rw [Nat.zero_add, Nat.mul_one, Nat.add_zero]
        simp [strCells, List.getD_eq_getElem?_getD, g1]) h6 hd
    refine .val ?_ g6
    rw [execOp_builtin ho, show (#[x, y] : Array Operand).map a.eval = #[a.eval x, a.eval y] from by simp, e1]
    exact run_v g5
  · cases h2

theorem ev_mov (R : Rel nm N S a w L) (hH : NoH L) (hd : ∀ d, o.dst = some d → d < N) {x : Operand} {X : Abs.X} (hx : OpRel nm X x) (hxo : X.okC = true) (ho : o.op = .move x ∨ o.op = .assign x)
    (hr : (evOp Cl d (.mov X)).run S = some r) : OpsTo P a w o (Aft nm N S w L a o.dst r.1 r.2) := by
  simp only [evOp] at hr
  obtain ⟨⟨v, ws1⟩, h1, h2⟩ := Q.run_bind_some hr
  clear hr
  obtain ⟨L1, O1, V1⟩ := tk_rep (Mid.init R) R (hH.free 0) hxo hx h1
  have hex : (execOp a.eval o).run P w = .ok (.value (a.eval x)) w := by rcases ho with ho | ho <;> simp [execOp, ho]
  refine .val hex ?_
  have plain : ∀ {r : V × List Wr}, (pure (v, ws1) : Q (V × List Wr)).run S = some r → Aft nm N S w L a o.dst r.1 r.2 (a.eval x) w := by
    intro r h
    obtain rfl := Q.run_pure_some h
    exact O1.mid.rel.aft O1.mid.mono hd (V1.rep O1.mid.stp)
  simp only at h2
  unfold movTo at h2
  split at h2
  · rename_i pl g aa sz rows
    obtain ⟨⟨c, ws2⟩, h3, h4⟩ := Q.run_bind_some h2
    obtain rfl := Q.run_pure_some h4
    obtain ⟨L2, O2, R2⟩ := settle_rep (m := 0) (j := 0) O1.mid V1 h3
    exact O2.mid.rel.aft O2.mid.mono hd (m := 0) (.one R2)
  · rename_i pl g sz off len
    split at h2
    · obtain ⟨⟨c, ws2⟩, h3, h4⟩ := Q.run_bind_some h2
      obtain rfl := Q.run_pure_some h4
      obtain ⟨L2, O2, R2⟩ := st_rep (m := 0) (j := 0) (c := .view pl g sz off len) (v := a.eval x) O1.mid V1 h3
      exact O2.mid.rel.aft O2.mid.mono hd (m := 0) (.one R2)
    · exact plain h2
  · exact plain h2

theorem putCells_rep {m : Nat} {mv : Bool} {r : Root} : ∀ (cs : List C) {ws : List Wr} {L : LabF} (M : Mid nm N S0 w0 L0 ws a w L) (j0 c0 : Nat) (vs : Nat → Value)
    (hc : ∀ j c, cs[j]? = some c → LimC nm w0 L0 S0.γ w L (S0.wrs ws).γ m (j0 + j) c (vs (j0 + j))) {rr : List C × List Wr} (hr : (putCells mv r ws c0 cs).run S0 = some rr),
    ∃ L', Out nm N S0 w0 L0 ws rr.2 a w L L' (fun q => ¬ (q.k = .h m ∧ j0 ≤ q.j)) m ∧ rr.1.length = cs.length ∧ (∀ c ∈ cs, c ≠ .dead) ∧
      ∀ j c, rr.1[j]? = some c → RepC nm w L' (S0.wrs rr.2).γ (.h m) (j0 + j) c (vs (j0 + j))
  | [], ws, L, M, j0, c0, vs, hc, rr, hr => by
    simp only [putCells] at hr
    obtain rfl := Q.run_pure_some hr
    exact ⟨L, Out.refl M _ m, rfl, fun c h => by simp at h, fun j c h => by simp at h⟩
  | c :: cs, ws, L, M, j0, c0, vs, hc, rr, hr => by
    simp only [putCells] at hr
    obtain ⟨⟨c1, ws1⟩, h1, h2⟩ := Q.run_bind_some hr
    clear hr
    obtain ⟨⟨cs2, ws2⟩, h3, h4⟩ := Q.run_bind_some h2
    clear h2
    obtain rfl := Q.run_pure_some h4
    have hcc := hc 0 c rfl
    have hlive : c ≠ .dead := by
      rintro rfl
      cases mv <;> simp [putCell, stMv, stAt, st] at h1
    obtain ⟨L1, O1, R1⟩ : ∃ L', Out nm N S0 w0 L0 ws ws1 a w L L' (fun q => ¬ (q.k = .h m ∧ q.j = j0)) m ∧ RepC nm w L' (S0.wrs ws1).γ (.h m) j0 c1 (vs j0) := by
      cases mv with
      | true => exact stMv_rep M hcc h1
      | false => exact stAt_rep M hcc h1
    obtain ⟨L2, O2, hl, hlv, R2⟩ := putCells_rep cs O1.mid (j0 + 1) (c0 + 1) vs (fun j c h => by
      have := hc (j + 1) c (by simpa using h)
      have := this.keep O1.keep (fun p => by simp)
      rwa [show j0 + 1 + j = j0 + (j + 1) by omega]) h3
    refine ⟨L2, (O1.weaken ?_).trans (O2.weaken ?_), by simp [hl], ?_, ?_⟩
    · intro q hq h; exact hq ⟨h.1, by omega⟩
    · intro q hq h; exact hq ⟨h.1, by omega⟩
    · intro y hy
      rcases List.mem_cons.1 hy with rfl | hy
      · exact hlive
      · exact hlv y hy
    · intro j y hj
      cases j with
      | zero =>
        simp only [List.getElem?_cons_zero, Option.some.injEq] at hj
        subst hj
        exact R1.keep O2.keep (fun p => by simp)
      | succ j =>
        have := R2 j y (by simpa using hj)
        rwa [show j0 + 1 + j = j0 + (j + 1) by omega] at this

theorem fitRow_rep {m : Nat} {Pl : Place} {i : Nat} : ∀ (cs : List C) {ws : List Wr} {L : LabF} (M : Mid nm N S0 w0 L0 ws a w L) (j0 c0 : Nat) (vs : Nat → Value)
    (hc : ∀ j c, cs[j]? = some c → LimC nm w0 L0 S0.γ w L (S0.wrs ws).γ m (j0 + j) c (vs (j0 + j))) {rr : List D × List Wr} (hr : (fitRow Pl i ws c0 cs).run S0 = some rr),
    ∃ L', Out nm N S0 w0 L0 ws rr.2 a w L L' (fun q => ¬ (q.k = .h m ∧ j0 ≤ q.j)) m ∧ rr.1.length = cs.length ∧ (∀ c ∈ cs, c ≠ .dead) ∧
      ∀ j c, rr.1[j]? = some c → RepC nm w L' (S0.wrs rr.2).γ (.h m) (j0 + j) (.d c) (vs (j0 + j))
  | [], ws, L, M, j0, c0, vs, hc, rr, hr => by
    simp only [fitRow] at hr
    obtain rfl := Q.run_pure_some hr
    exact ⟨L, Out.refl M _ m, rfl, fun c h => by simp at h, fun j c h => by simp at h⟩
  | c :: cs, ws, L, M, j0, c0, vs, hc, rr, hr => by
    simp only [fitRow] at hr
    obtain ⟨⟨c1, ws1⟩, h1, h2⟩ := Q.run_bind_some hr
    clear hr
    have hcc := hc 0 c rfl
    have hlive : c ≠ .dead := by
      rintro rfl
      simp [stAt, st] at h1
    obtain ⟨L1, O1, R1⟩ := stAt_rep M hcc h1
    simp only at h2
    split at h2
    · rename_i z
      obtain ⟨⟨cs2, ws2⟩, h3, h4⟩ := Q.run_bind_some h2
      clear h2
      obtain rfl := Q.run_pure_some h4
      obtain ⟨L2, O2, hl, hlv, R2⟩ := fitRow_rep cs O1.mid (j0 + 1) (c0 + 1) vs (fun j c h => by
        have := hc (j + 1) c (by simpa using h)
        have := this.keep O1.keep (fun p => by simp)
        rwa [show j0 + 1 + j = j0 + (j + 1) by omega]) h3
      refine ⟨L2, (O1.weaken ?_).trans (O2.weaken ?_), by simp [hl], ?_, ?_⟩
      · intro q hq h; exact hq ⟨h.1, by omega⟩
      · intro q hq h; exact hq ⟨h.1, by omega⟩
      · intro y hy
        rcases List.mem_cons.1 hy with rfl | hy
        · exact hlive
        · exact hlv y hy
      · intro j y hj
        cases j with
        | zero =>
          simp only [List.getElem?_cons_zero, Option.some.injEq] at hj
          subst hj
          exact R1.keep O2.keep (fun p => by simp)
        | succ j =>
          have := R2 j y (by simpa using hj)
          rwa [show j0 + 1 + j = j0 + (j + 1) by omega] at this
    · cases h2

theorem ev_store (R : Rel nm N S a w L) (hH : NoH L) (hd : ∀ d, o.dst = some d → d < N) {x v : Operand} {X V' : Abs.X} {t : TypeId} {mv : Bool} {n : Nat} (hx : OpRel nm X x) (hv : OpRel nm V' v) (hvo : V'.okC = true)
    (ho : o.op = .store t x v) (ht : szOf P t = some n) (hn : n ≠ 0) (hr : (evOp Cl d (.store mv n X V')).run S = some r) : OpsTo P a w o (Aft nm N S w L a o.dst r.1 r.2) := by
  simp only [evOp] at hr
  obtain ⟨p, h1, h2⟩ := Q.run_bind_some hr
  clear hr
  obtain ⟨⟨vv, ws1⟩, h3, h4⟩ := Q.run_bind_some h2
  clear h2
  obtain ⟨hg, h5⟩ := Q.run_guard_some h4
  clear h4
  simp only [beq_iff_eq] at hg
  have rp := rd_val R hx h1
  obtain ⟨L1, O1, V1⟩ := tk_rep (Mid.init R) R (hH.free 0) hvo hv h3
  dsimp only at V1 O1 hg h5
  have hnt : ∀ vs, vv ≠ .tup vs := by rintro vs rfl; exact hn (by rw [← hg]; rfl)
  have run : ∀ (B o' : Nat), a.eval x = .pointer (some ⟨B, o', none⟩) → (a.eval v).cells.size = n → (∀ j, j < n → (w.cell? ⟨B, o' + j, none⟩).isSome = true) → (∀ j, j < n → w.frozen? ⟨B, o' + j, none⟩ = false) → (∀ u ∈ (a.eval v).cells.toList, u.oneCell' = true) →
      (execOp a.eval o).run P w = .ok .skip (w.setCells B o' (a.eval v).cells.toList) := by
    intro B o' hb hs hc hf h1
    have hst := run_storeCells_cells (P := P) B o' (a.eval v).cells.toList 0 w (by simpa [hs] using hc) (by simpa [hs] using hf) h1
    simp only [Nat.add_zero] at hst
    have : (Instr.storeAt t (a.eval x) (a.eval v)).run P w = .ok () (w.setCells B o' (a.eval v).cells.toList) := by
      rw [hb]
      simp [Instr.storeAt, Instr.sureAddr, storeVar, run_sizeOf' ht, hs, hst]
    simp [execOp, ho, this]
  have limc : ∀ (hlv : ∀ c ∈ vv.cells, c ≠ .dead), (a.eval v).cells.size = n ∧ (∀ j c, vv.cells[j]? = some c → LimC nm w L S.γ w L1 (S.wrs ws1).γ 0 (0 + j) c ((a.eval v).cells.getD (0 + j) undef)) ∧ (∀ u ∈ (a.eval v).cells.toList, u.oneCell' = true) := by
    intro hlv
    obtain ⟨c1, c2⟩ := V1.cells O1.mid.stp hnt hlv
    refine ⟨by omega, fun j c hc => ?_, fun u hu => ?_⟩
    · have hj : j < (a.eval v).cells.size := by rw [← c1]; exact (List.getElem?_eq_some_iff.1 hc).1
      have := c2 j c _ hc (Array.getElem?_eq_getElem hj)
      simpa [Array.getD, hj] using this
    · obtain ⟨j, hj, hju⟩ := List.mem_iff_getElem.1 hu
      have hj' : j < (a.eval v).cells.size := by simpa using hj
      have hcj : j < vv.cells.length := by omega
      have := c2 j vv.cells[j] u (by simp) (by rw [Array.getElem?_eq_getElem hj']; simpa using hju)
      exact (this.rep O1.mid.stp).oneCell (hlv _ (List.getElem_mem hcj))
  split at h5
  · -- a box
    rename_i r0 g c
    obtain ⟨⟨cs, ws2⟩, h6, h7⟩ := Q.run_bind_some h5
    clear h5
    rw [Q.run_bind, atP_run, Option.bind_some] at h7
    obtain ⟨hg2, h8⟩ := Q.run_guard_some h7
    clear h7
    obtain rfl := Q.run_pure_some h8
    simp only [Bool.and_eq_true, Bool.not_eq_true', beq_iff_eq, decide_eq_true_eq] at hg2
    obtain ⟨⟨hG, hgg⟩, hcn⟩ := hg2
    -- the cells are live: put them
    have hlive : ∀ c ∈ vv.cells, c ≠ .dead := by
      have aux : ∀ (l : List C) (ws : List Wr) (c0 : Nat) (rr : List C × List Wr), (putCells mv r0 ws c0 l).run S = some rr → ∀ c ∈ l, c ≠ .dead := by
        intro l
        induction l with
        | nil => intro ws c0 rr _ c hc; simp at hc
        | cons y l ih =>
          intro ws c0 rr h c hc
          simp only [putCells] at h
          obtain ⟨r1, g1, g2⟩ := Q.run_bind_some h
          obtain ⟨r2, g3, _⟩ := Q.run_bind_some g2
          rcases List.mem_cons.1 hc with rfl | hc
          · rintro rfl
            cases mv <;> simp [putCell, stMv, stAt, st] at g1
          · exact ih _ _ _ g3 c hc
      exact aux _ _ _ _ h6
    obtain ⟨hs, hlim, hone⟩ := limc hlive
    obtain ⟨L2, O2, hl2, _, R2⟩ := putCells_rep (m := 0) vv.cells O1.mid 0 c (fun j => (a.eval v).cells.getD j undef) hlim h6
    have hl2' : cs.length = vv.cells.length := hl2
    dsimp only at O2 R2 hl2
    cases rp.one_inv with
    | ptr hv0 hgl hp =>
      obtain ⟨B, o', hB, hval⟩ := hp hgg.symm
      have hB2 := O2.mid.boxes B r0 o' hB
      obtain ⟨B', o'', cur, e, fz, k1, k2, k3, k4⟩ := O2.mid.rel.room r0 hG (by omega)
      obtain rfl := O2.mid.rel.boxInj B' B r0 o'' o' k1 hB2
      obtain rfl : o'' = o' := by rw [k1] at hB2; simpa using hB2
      obtain ⟨L3, hR, hM, _, _⟩ := Rel.boxSets (m := 0) hG cs (a.eval v).cells.toList 0 c (S := S) (ws := ws2) O2.mid.rel hB2 (by simp; omega) (by omega) (by
        intro j y u hy hu
        have := R2 j y hy
        rw [Array.getElem?_toList] at hu
        simpa [Array.getD_eq_getD_getElem?, hu] using this)
      refine .skip (run B' (o'' + c) hval hs (fun j hj => ?_) (fun j hj => ?_) hone) (hR.aft (O2.mid.mono.trans hM) hd (m := 0) (.tup (us := #[]) rfl rfl (fun i x u h => by simp at h)))
      · rw [cell?_of k2]; simp; omega
      · exact frozen?_of k2 k3 (by omega)
  · -- a row
    rename_i pl g sz i c
    obtain ⟨⟨zs, ws2⟩, h6, h7⟩ := Q.run_bind_some h5
    clear h5
    obtain ⟨⟨e, x0, rows⟩, h8, h9⟩ := Q.run_bind_some h7
    clear h7
    obtain ⟨rfl, hgg, hE, hnv⟩ := ownAt_run h8
    obtain ⟨row, hrow, h10⟩ := Q.run_ofO_some h9
    clear h9
    obtain ⟨hg2, h11⟩ := Q.run_guard_some h10
    clear h10
    simp only [decide_eq_true_eq] at hg2
    obtain ⟨ws3, hws, h12⟩ := Q.run_ofO_some h11
    clear h11
    obtain rfl := Q.run_pure_some h12
    have hlive : ∀ c ∈ vv.cells, c ≠ .dead := by
      have aux : ∀ (l : List C) (ws : List Wr) (c0 : Nat) (rr : List D × List Wr), (fitRow pl i ws c0 l).run S = some rr → ∀ c ∈ l, c ≠ .dead := by
        intro l
        induction l with
        | nil => intro ws c0 rr _ c hc; simp at hc
        | cons y l ih =>
          intro ws c0 rr h c hc
          simp only [fitRow] at h
          obtain ⟨⟨y1, wsy⟩, g1, g2⟩ := Q.run_bind_some h
          rcases List.mem_cons.1 hc with rfl | hc
          · rintro rfl
            simp [stAt, st] at g1
          · simp only at g2
            split at g2
            · obtain ⟨r2, g3, _⟩ := Q.run_bind_some g2
              exact ih _ _ _ g3 c hc
            · cases g2
      exact aux _ _ _ _ h6
    obtain ⟨hs, hlim, hone⟩ := limc hlive
    obtain ⟨L2, O2, hl2, _, R2⟩ := fitRow_rep (m := 0) vv.cells O1.mid 0 c (fun j => (a.eval v).cells.getD j undef) hlim h6
    have hl2' : zs.length = vv.cells.length := hl2
    dsimp only at O2 R2 hl2
    cases rp.one_inv with
    | eptr hv0 hh hgl hp =>
      obtain ⟨B, o', hB, hval⟩ := hp hgg
      obtain ⟨u0, hu0⟩ := O2.mid.at_own hh hE hnv
      rcases hu0.own_inv with ⟨hnil, _⟩ | ⟨B', o'', cap, cur, e', fz, val, _, hsz, hL', hB', hfz, hlens, hcap, hroom, hvalc, hrr⟩
      · rw [hnil] at hrow; simp at hrow
      have hL0 := O2.mid.rows B' pl o'' hh hL'
      obtain rfl := O2.mid.inj0 B' B pl o'' o' hL0 hB
      obtain rfl : o'' = o' := by rw [hL0] at hB; simpa using hB
      dsimp only at hcap hlens hL' hB' hvalc hnv hE hrow hws
      have hi : i < rows.length := (List.getElem?_eq_some_iff.1 hrow).1
      have hrl : row.length = sz := hlens row (List.mem_of_getElem? hrow)
      have hidx : i * sz + sz ≤ cap * sz := by
        have : (i + 1) * sz ≤ cap * sz := Nat.mul_le_mul_right _ (by omega)
        rwa [Nat.add_mul, Nat.one_mul] at this
      obtain ⟨L3, hR, hM, _⟩ := Rel.elSets (m := 0) (sz := sz) (i := i) hh zs (a.eval v).cells.toList 0 c x0 (S0 := S) (ws := ws2) (ws' := ws3) O2.mid.rel hE ⟨rows, hnv⟩ hL' (by simp; omega) hws (by
        intro j y u hy hu
        have := R2 j y hy
        rw [Array.getElem?_toList] at hu
        simpa [Array.getD_eq_getD_getElem?, hu] using this)
      refine .skip (run B' (o'' + i * sz + c) hval hs (fun j hj => ?_) (fun j hj => ?_) hone) (hR.aft (O2.mid.mono.trans hM) hd (m := 0) (.tup (us := #[]) rfl rfl (fun i x u h => by simp at h)))
      · rw [cell?_of hB']; simp; omega
      · exact frozen?_of hB' hfz (by omega)
  · cases h5

theorem st_clean {c : C} {k : Key} {j : Nat} {v : Value} {γ : Key → Nat} {rr : C × List Wr} (h : (st ws c).run S = some rr) (hc : c.clean = true) : rr.1.clean = true := by
  cases c with
  | view pl g sz off len =>
    simp only [st] at h
    obtain ⟨res, h1, h2⟩ := Q.run_bind_some h
    obtain ⟨_, h3⟩ := Q.run_guard_some h2
    obtain rfl := Q.run_pure_some h3
    rfl
  | appd => simp [C.clean] at hc
  | eptr => simp [st] at h
  | dead => simp [st] at h
  | _ => simp only [st] at h; obtain rfl := Q.run_pure_some h; exact hc

theorem fnCells_rep (R0 : Rel nm N S0 a w0 L0) : ∀ (xs : List Abs.X) (ps : List Operand) {ws : List Wr} {L : LabF} (M : Mid nm N S0 w0 L0 ws a w L) (hp : xs.length = ps.length) (hx : ∀ (j : Nat) X x, xs[j]? = some X → ps[j]? = some x → OpRel nm X x ∧ X.okC = true) {rr : List C × List Wr} (hr : (fnCells ws xs).run S0 = some rr),
    ∃ L', Out nm N S0 w0 L0 ws rr.2 a w L L' (fun q => q.k ≠ .h 0) 0 ∧ rr.1.length = xs.length ∧ cleanL rr.1 = true ∧ ∀ (j : Nat) c x, rr.1[j]? = some c → ps[j]? = some x → RepC nm w L' (S0.wrs rr.2).γ (.h 0) 0 c (a.eval x)
  | [], [], ws, L, M, hp, hx, rr, hr => by
    simp only [fnCells] at hr
    obtain rfl := Q.run_pure_some hr
    exact ⟨L, Out.refl M _ 0, rfl, rfl, fun j c x h => by simp at h⟩
  | X :: xs, x :: ps, ws, L, M, hp, hx, rr, hr => by
    simp only [fnCells] at hr
    obtain ⟨v, h1, h2⟩ := Q.run_bind_some hr
    clear hr
    obtain ⟨hX, hXo⟩ := hx 0 X x rfl rfl
    have rv := rd_val R0 hX h1
    have hcl := rd_own hXo h1
    split at h2
    · rename_i c
      obtain ⟨⟨c1, ws1⟩, h3, h4⟩ := Q.run_bind_some h2
      clear h2
      obtain ⟨⟨cs, ws2⟩, h5, h6⟩ := Q.run_bind_some h4
      clear h4
      obtain rfl := Q.run_pure_some h6
      have hco : c.own = false := own_get (j := 0) hcl rfl
      have hcc : c.clean = true := rv.one_inv.clean_of hco
      obtain ⟨L1, O1, R1⟩ := st_rep (m := 0) (j := 0) M (LimC.of_rep M.stp rv.one_inv hco) h3
      obtain ⟨L2, O2, hl, hcl2, R2⟩ := fnCells_rep R0 xs ps O1.mid (by simpa using hp) (fun j X x h1 h2 => hx (j + 1) X x (by simpa using h1) (by simpa using h2)) h5
      have hc1 : c1.clean = true := st_clean (k := .h 0) (j := 0) (v := undef) (γ := S0.γ) h3 hcc
      refine ⟨L2, (O1.weaken (fun q hq h => hq h.1)).trans O2, by simp [hl], by simp [cleanL, hc1, hcl2], ?_⟩
      intro j y z hj hz
      cases j with
      | zero =>
        simp only [List.getElem?_cons_zero, Option.some.injEq] at hj hz
        subst hj; subst hz
        exact R1.stepClean O2.stp hc1 _ _
      | succ j => exact R2 j y z (by simpa using hj) (by simpa using hz)
    · cases h2
  | [], _ :: _, _, _, _, hp, _, _, _ => by simp at hp
  | _ :: _, [], _, _, _, hp, _, _, _ => by simp at hp

theorem ev_mkfn (R : Rel nm N S a w L) (hH : NoH L) (hd : ∀ d, o.dst = some d → d < N) {fid f : Nat} {first cap : Array Operand} {xs ys : List Abs.X} (hf : nm fid = some f) (hp1 : xs.length = first.toList.length) (hx1 : ∀ (j : Nat) X x, xs[j]? = some X → first.toList[j]? = some x → OpRel nm X x ∧ X.okC = true)
    (hp2 : ys.length = cap.toList.length) (hx2 : ∀ (j : Nat) X x, ys[j]? = some X → cap.toList[j]? = some x → OpRel nm X x ∧ X.okC = true) (ho : o.op = .makeFunc (.func fid) first cap)
    (hr : (evOp Cl d (.mkfn f xs ys)).run S = some r) : OpsTo P a w o (Aft nm N S w L a o.dst r.1 r.2) := by
  simp only [evOp] at hr
  obtain ⟨⟨fa, ws1⟩, h1, h2⟩ := Q.run_bind_some hr
  clear hr
  obtain ⟨⟨fb, ws2⟩, h3, h4⟩ := Q.run_bind_some h2
  clear h2
  obtain rfl := Q.run_pure_some h4
  obtain ⟨L1, O1, hl1, hc1, R1⟩ := fnCells_rep R xs first.toList (Mid.init R) hp1 hx1 h1
  obtain ⟨L2, O2, hl2, hc2, R2⟩ := fnCells_rep R ys cap.toList O1.mid hp2 hx2 h3
  have hl1' : fa.length = xs.length := hl1
  have hl2' : fb.length = ys.length := hl2
  refine .val (v := .func (.func fid) (first.map a.eval) (cap.map a.eval)) (w' := w) ?_ (O2.mid.rel.aft O2.mid.mono hd (m := 0) (.one (.fn hf (by simp; simp at hp1; omega) (by simp; simp at hp2; omega) ⟨hc1, hc2⟩ ?_ ?_)))
  · simp [execOp, ho, Instr.makeFunc]
  · intro j x u h5 h6
    rw [Array.getElem?_map] at h6
    cases hj : first[j]? with
    | none => simp [hj] at h6
    | some y =>
      simp only [hj, Option.map_some, Option.some.injEq] at h6
      subst h6
      exact (R1 j x y h5 (by rw [Array.getElem?_toList]; exact hj)).stepClean O2.stp (cleanL_get hc1 h5) _ _
  · intro j x u h5 h6
    rw [Array.getElem?_map] at h6
    cases hj : cap[j]? with
    | none => simp [hj] at h6
    | some y =>
      simp only [hj, Option.map_some, Option.some.injEq] at h6
      subst h6
      exact R2 j x y h5 (by rw [Array.getElem?_toList]; exact hj)
end
end Go.Abs
end
section
/- Every operation that is compiled does what the evaluator says. -/
set_option linter.unusedVariables false
set_option linter.unusedSimpArgs false
namespace Go.Abs
section
variable {nm : FuncId → Option Nat} {N : Nat} {S : St} {a : Act} {w : World} {L : LabF} {P : Program} {o : Oper} {Cl : Oracle} {d : Nat} {r : V × List Wr} {hh : Hint}

/-- What calls are to come to. -/
def CallOk (P : Program) (nm : FuncId → Option Nat) (Cl : Oracle) : Prop :=
  ∀ {N : Nat} {S : St} {a : Act} {w : World} {L : LabF} {o : Oper} {d : Nat} {r : V × List Wr} {c : Call} {f : Operand} {F : X} {xs : List (Bool × X)}, Rel nm N S a w L → NoH L → (∀ d, o.dst = some d → d < N) → o.op = .call c → c.callee = .value f → OpRel nm F f → F.okC = true →
    xs.length = c.args.toList.length → (∀ (j : Nat) x y, xs[j]? = some x → c.args.toList[j]? = some y → OpRel nm x.2 y ∧ x.2.okC = true) → (evOp Cl d (.call F xs)).run S = some r → OpsTo P a w o (Aft nm N S w L a o.dst r.1 r.2)

theorem bind_some {α β : Type} {x : Option α} {f : α → Option β} {r : β} (h : (x >>= f) = some r) : ∃ y, x = some y ∧ f y = some r := by
  cases x with
  | none => cases h
  | some y => exact ⟨y, rfl, h⟩
theorem map_some' {α β : Type} {x : Option α} {f : α → β} {r : β} (h : x.map f = some r) : ∃ y, x = some y ∧ r = f y := by
  cases x with
  | none => cases h
  | some y => exact ⟨y, rfl, by simpa using h.symm⟩

theorem elemsOk_of {e : TypeId} : ∀ (ps : List (Nat × Operand)) {xs : List (Nat × X)}, ps.mapM (compElem P nm hh e) = some xs → ElemsOk nm xs ps
  | [], xs, h => by
    have : xs = [] := by simpa using h.symm
    subst this
    trivial
  | p :: ps, xs, h => by
    rw [List.mapM_cons] at h
    obtain ⟨y, h1, h2⟩ := bind_some h
    obtain ⟨ys, h3, h4⟩ := bind_some h2
    have : xs = y :: ys := by simpa using h4.symm
    subst this
    unfold compElem at h1
    obtain ⟨x, h5, rfl⟩ := map_some' h1
    obtain ⟨g1, g2⟩ := compX_rel h5
    exact ⟨rfl, g1, g2, elemsOk_of ps h3⟩

theorem partsOk_of {fs : Array Field} : ∀ (ps : List (Nat × Operand)) {xs : List (Nat × Nat × X)}, ps.mapM (compPart P nm hh fs) = some xs → PartsOk nm (fun i => (fs.map fun f => (f.offset, (szOf P f.type).getD 0))[i]?) xs ps
  | [], xs, h => by
    have : xs = [] := by simpa using h.symm
    subst this
    trivial
  | p :: ps, xs, h => by
    rw [List.mapM_cons] at h
    obtain ⟨y, h1, h2⟩ := bind_some h
    obtain ⟨ys, h3, h4⟩ := bind_some h2
    have : xs = y :: ys := by simpa using h4.symm
    subst this
    unfold compPart at h1
    split at h1
    · rename_i f hf
      split at h1
      · rename_i n x hn hx
        split at h1
        · cases h1
        · rename_i hn0
          cases h1
          obtain ⟨g1, g2⟩ := compX_rel hx
          refine ⟨?_, hn0, g1, g2, partsOk_of ps h3⟩
          simp [Array.getElem?_map, hf, hn]
      · cases h1
    · cases h1

theorem lookOpt {t : TypeId} {lo : Option Operand} {LO : Option X} (h : (match lo with | none => some none | some v => (lookX P nm t v).map some) = some LO) :
    (∀ x, lo = some x → ∃ y, LO = some y ∧ OpRel nm y x) ∧ (lo = none → LO = none) := by
  cases lo with
  | none =>
    have : LO = none := by simpa using h.symm
    exact ⟨(fun x hx => by cases hx), fun _ => this⟩
  | some v =>
    obtain ⟨y, h1, rfl⟩ := map_some' h
    exact ⟨fun x hx => by cases hx; exact ⟨y, rfl, (lookX_rel h1).1⟩, fun hx => by cases hx⟩

theorem isU8_inv {t : TypeId} (h : isU8 (P.underlying t) = true) : P.underlying t = some (.int .u8) := by
  unfold isU8 at h
  split at h
  · assumption
  · cases h

theorem appT_of {t u e : TypeId} {i : TypeInfo} {dd : TypeDesc} {zs : List C} (ht : P.underlying t = some (.slice e)) (hu : P.underlying u = some dd) (hd : ∀ k, dd ≠ .int k) (hi : P.info? e = some i) (hz : zeroC P e = some zs) (hs : i.size ≠ 0) (hb : i.bytes ≠ 0) :
    ∃ z, AppT P i.size i.bytes t u e i dd z := by
  obtain ⟨i', z, k1, k2, k3, k4, k5⟩ := zeroC_inv hz
  obtain rfl : i' = i := by rw [hi] at k1; simpa using k1.symm
  exact ⟨z, ht, hu, hd, hi, k2, rfl, k4, Nat.pos_of_ne_zero hs, rfl, hb⟩

theorem zip_mapM {l1 : List Operand} {l2 : List TypeId} {xs : List X} (h : (l1.zip l2).mapM (fun x => compX P nm hh x.2 x.1) = some xs) (hl : l1.length = l2.length) : xs.length = l1.length ∧ ∀ (j : Nat) x y, xs[j]? = some x → l1[j]? = some y → OpRel nm x y ∧ x.okC = true := by
  obtain ⟨h1, h2⟩ := mapM_inv _ h
  refine ⟨by rw [h1, List.length_zip]; omega, fun j x y hx hy => ?_⟩
  obtain ⟨p, g1, g2⟩ := h2 j x hx
  rw [List.getElem?_zip_eq_some] at g1
  have : p.1 = y := by rw [g1.1] at hy; simpa using hy
  rw [this] at g2
  exact compX_rel g2

theorem op_sound (hc : CallOk P nm Cl) (R : Rel nm N S a w L) (hH : NoH L) (hd : ∀ d, o.dst = some d → d < N) {io : IOp} (hio : compOp P nm hh o = some io) (hr : (evOp Cl d io).run S = some r) :
    OpsTo P a w o (Aft nm N S w L a o.dst r.1 r.2) := by
  have bad : ∀ {io : IOp}, (none : Option IOp) = some io → False := fun h => by cases h
  unfold compOp at hio
  split at hio
  · rename_i x ho
    obtain ⟨X, h1, rfl⟩ := map_some' hio
    obtain ⟨g1, g2⟩ := compX_rel h1
    exact ev_mov R hH hd g1 g2 (.inl ho) hr
  · rename_i x ho
    obtain ⟨X, h1, rfl⟩ := map_some' hio
    obtain ⟨g1, g2⟩ := compX_rel h1
    exact ev_mov R hH hd g1 g2 (.inr ho) hr
  · rename_i c x y ho
    obtain ⟨C', h1, h2⟩ := bind_some hio
    obtain ⟨X, h3, h4⟩ := bind_some h2
    obtain ⟨Y, h5, h6⟩ := bind_some h4
    cases h6
    exact ev_pick R hd (lookX_rel h1).1 (lookX_rel h3).1 (lookX_rel h5).1 ho hr
  · rename_i e ho
    obtain ⟨zs, h1, rfl⟩ := map_some' hio
    exact ev_alloc R hd ho h1 hr
  · rename_i e v ho
    obtain ⟨n, h1, h2⟩ := bind_some hio
    obtain ⟨X, h3, h4⟩ := bind_some h2
    split at h4
    · cases h4
    · rename_i hn
      cases h4
      obtain ⟨g1, g2⟩ := compX_rel h3
      exact ev_box R hH hd g1 g2 ho hn hr
  · rename_i t parts ho
    obtain ⟨zs, h1, h2⟩ := bind_some hio
    split at h2
    · rename_i fs ht
      split at h2
      · rename_i hall
        obtain ⟨ps, h3, rfl⟩ := map_some' h2
        exact ev_build R hH hd ho h1 ht (fun f hf => by simpa using List.all_eq_true.1 hall f hf) (partsOk_of _ h3) hr
      · cases h2
    · cases h2
  · rename_i t len parts ho
    split at hio
    · rename_i e ht
      obtain ⟨zs, h1, h2⟩ := bind_some hio
      obtain ⟨row, h3, h4⟩ := bind_some h2
      split at h4
      · cases h4
      · rename_i hcond
        obtain ⟨ps, h5, rfl⟩ := map_some' h4
        exact ev_bslice R hH hd ho ht h1 h3 (fun h => hcond (.inl h)) (fun h => hcond (.inr h)) (elemsOk_of _ h5) hr
    · cases hio
  · rename_i t x ho
    obtain ⟨⟨n, agg⟩, h1, h2⟩ := bind_some hio
    obtain ⟨X, h3, h4⟩ := bind_some h2
    split at h4
    · cases h4
    · cases h4
      exact ev_load R hd (lookX_rel h3).1 ho h1 hr
  · rename_i t x v ho
    obtain ⟨n, h1, h2⟩ := bind_some hio
    obtain ⟨X, h3, h4⟩ := bind_some h2
    obtain ⟨V', h5, h6⟩ := bind_some h4
    split at h6
    · cases h6
    · rename_i hn
      cases h6
      obtain ⟨g1, g2⟩ := compX_rel h5
      exact ev_store R hH hd (lookX_rel h3).1 g1 g2 ho h1 hn hr
  · rename_i x ho
    obtain ⟨X, h1, rfl⟩ := map_some' hio
    exact ev_nilck R hd (lookX_rel h1).1 ho hr
  · rename_i op t x y yt ho
    obtain ⟨tc, h1, h2⟩ := bind_some hio
    obtain ⟨X, h3, h4⟩ := bind_some h2
    obtain ⟨Y, h5, h6⟩ := bind_some h4
    cases h6
    exact ev_bin R hd (lookX_rel h3).1 (lookX_rel h5).1 ho h1 hr
  · rename_i op t x ho
    obtain ⟨X, h1, rfl⟩ := map_some' hio
    exact ev_un R hd (lookX_rel h1).1 ho hr
  · rename_i s dt x ho
    obtain ⟨X, h1, h2⟩ := bind_some hio
    obtain ⟨g1, g2⟩ := lookX_rel h1
    split at h2
    · rename_i k k' hs hdt; cases h2; exact ev_convInt R hd g1 ho hs hdt hr
    · rename_i hs hdt; cases h2; exact ev_convSame R hd g1 ho hs hdt hr
    · rename_i e hs hdt
      split at h2
      · rename_i hu; cases h2; exact ev_strBytes R hH hd g1 ho hs hdt (isU8_inv hu) hr
      · cases h2
    · rename_i e hs hdt
      split at h2
      · rename_i hu; cases h2; exact ev_convBytes R hd g1 g2 ho hs hdt (isU8_inv hu) hr
      · cases h2
    · cases h2
  · rename_i f x y ho
    obtain ⟨n, h1, h2⟩ := bind_some hio
    obtain ⟨xs, h3, h4⟩ := bind_some h2
    obtain ⟨ys, h5, h6⟩ := bind_some h4
    cases h6
    obtain ⟨g1, g2⟩ := mapM_inv _ h3
    obtain ⟨g3, g4⟩ := mapM_inv _ h5
    refine ev_mkfn R hH hd h1 g1 (fun j X z hX hz => ?_) g3 (fun j X z hX hz => ?_) ho hr
    · obtain ⟨z', k1, k2⟩ := g2 j X hX
      rw [hz] at k1; cases k1
      exact lookX_rel k2
    · obtain ⟨z', k1, k2⟩ := g4 j X hX
      rw [hz] at k1; cases k1
      exact lookX_rel k2
  · rename_i t l c ho
    split at hio
    · rename_i e ht
      obtain ⟨i, h1, h2⟩ := bind_some hio
      obtain ⟨zs, h3, h4⟩ := bind_some h2
      obtain ⟨row, h5, h6⟩ := bind_some h4
      obtain ⟨LX, h7, h8⟩ := bind_some h6
      obtain ⟨CX, h9, h10⟩ := bind_some h8
      split at h10
      · cases h10
      · rename_i hs
        cases h10
        exact ev_mkslice R hH hd (lookX_rel h7).1 (lookX_rel h9).1 ho ht h1 h3 h5 hs hr
    · cases hio
  · rename_i t x lo hi mx ho
    obtain ⟨X, h1, h2⟩ := bind_some hio
    obtain ⟨LO, h3, h4⟩ := bind_some h2
    obtain ⟨HI, h5, h6⟩ := bind_some h4
    obtain ⟨MX, h7, h8⟩ := bind_some h6
    obtain ⟨l1, l2⟩ := lookOpt h3
    obtain ⟨l3, l4⟩ := lookOpt h5
    obtain ⟨l5, l6⟩ := lookOpt h7
    split at h8
    · rename_i ht
      split at h8
      · cases h8
      · rename_i hm
        cases h8
        have hmn : mx = none := by
          cases mx with
          | none => rfl
          | some m => obtain ⟨y, hy, _⟩ := l5 m rfl; simp [hy] at hm
        subst hmn
        exact ev_sliceStr R hd (lookX_rel h1).1 ho ht l1 l2 l3 l4 hr
    · rename_i e ht
      obtain ⟨n, h9, h10⟩ := bind_some h8
      split at h10
      · cases h10
      · rename_i hcond
        cases h10
        refine ev_slice R hd (lookX_rel h1).1 ho ht h9 (fun h => hcond (.inl h)) l1 l2 l3 l4 l5 l6 (fun hm hh => ?_) hr
        apply hcond
        right
        cases mx with
        | none => exact absurd rfl hm
        | some m => obtain ⟨y, hy, _⟩ := l5 m rfl; exact ⟨by rw [hy]; rfl, by rw [l4 hh]; rfl⟩
    · cases h8
  · rename_i s x fi ho
    split at hio
    · rename_i fs hs
      obtain ⟨f, h1, h2⟩ := bind_some hio
      obtain ⟨n, h3, h4⟩ := bind_some h2
      obtain ⟨X, h5, h6⟩ := bind_some h4
      split at h6
      · cases h6
      · rename_i hn
        cases h6
        exact ev_fieldA R hd (lookX_rel h5).1 ho hs h1 h3 hn hr
    · cases hio
  · rename_i t x fi ho
    split at hio
    · rename_i fs hs
      obtain ⟨f, h1, h2⟩ := bind_some hio
      obtain ⟨⟨n, agg⟩, h3, h4⟩ := bind_some h2
      obtain ⟨X, h5, h6⟩ := bind_some h4
      cases h6
      obtain ⟨g1, g2⟩ := lookX_rel h5
      exact ev_field R hd g1 g2 ho hs h1 h3 hr
    · cases hio
  · rename_i t x i ho
    split at hio
    · rename_i e ht
      obtain ⟨n, h1, h2⟩ := bind_some hio
      obtain ⟨X, h3, h4⟩ := bind_some h2
      obtain ⟨I, h5, h6⟩ := bind_some h4
      split at h6
      · cases h6
      · cases h6
        exact ev_indexA R hd (lookX_rel h3).1 (lookX_rel h5).1 ho ht h1 hr
    · rename_i k e ht
      obtain ⟨n, h1, h2⟩ := bind_some hio
      obtain ⟨X, h3, h4⟩ := bind_some h2
      obtain ⟨I, h5, h6⟩ := bind_some h4
      split at h6
      · cases h6
      · cases h6
        exact ev_indexR R hd (lookX_rel h3).1 (lookX_rel h5).1 ho ht h1 hr
    · cases hio
  · rename_i t x i ho
    split at hio
    · rename_i ht
      obtain ⟨X, h3, h4⟩ := bind_some hio
      obtain ⟨I, h5, h6⟩ := bind_some h4
      cases h6
      exact ev_index R hd (lookX_rel h3).1 (lookX_rel h5).1 ho ht hr
    · cases hio
  · rename_i x j ho
    obtain ⟨X, h1, rfl⟩ := map_some' hio
    exact ev_extract R hd (lookX_rel h1).1 ho hr
  · rename_i t x ho
    split at hio
    · cases hio
    · rename_i dd hnd ht
      obtain ⟨X, h1, rfl⟩ := map_some' hio
      exact ev_mkif R hd ho ht (fun m e => hnd m e) hr
    · cases hio
  · rename_i c ho
    unfold compCall at hio
    split at hio
    · rename_i f hf
      obtain ⟨F, h1, h2⟩ := bind_some hio
      split at h2
      · rename_i hsz
        obtain ⟨xs, h3, h4⟩ := bind_some h2
        cases h4
        obtain ⟨g1, g2⟩ := lookX_rel h1
        obtain ⟨g3, g4⟩ := zip_mapM h3 (by simpa using hsz)
        refine hc R hH hd ho hf g1 g2 (by simpa using g3) (fun j x y hx hy => ?_) hr
        rw [List.getElem?_map] at hx
        cases hz : (xs.zipIdx)[j]? with
        | none => simp [hz] at hx
        | some p =>
          simp only [hz, Option.map_some, Option.some.injEq] at hx
          subst hx
          rw [List.getElem?_zipIdx] at hz
          cases hxj : xs[j]? with
          | none => simp [hxj] at hz
          | some X =>
            simp only [hxj, Option.map_some, Option.some.injEq] at hz
            subst hz
            exact g4 j X y hxj hy
      · cases h2
    · rename_i hb
      split at hio
      · rename_i x t hx ht
        have hcc : c = ⟨.builtin .len, #[x], #[t]⟩ := by obtain ⟨cl, ca, ct⟩ := c; simp only at hb hx ht; subst hb; congr <;> (apply Array.ext'; simpa using by assumption)
        subst hcc
        split at hio
        · rename_i hu
          obtain ⟨X, h1, rfl⟩ := map_some' hio
          exact ev_len R hd (lookX_rel h1).1 ho (by simpa using hu) hr
        · rename_i e hu
          obtain ⟨X, h1, rfl⟩ := map_some' hio
          exact ev_len R hd (lookX_rel h1).1 ho (by simpa using ⟨e, hu⟩) hr
        · cases hio
      · cases hio
    · rename_i hb
      split at hio
      · rename_i x y t u hx ht
        have hcc : c = ⟨.builtin .append, #[x, y], #[t, u]⟩ := by obtain ⟨cl, ca, ct⟩ := c; simp only at hb hx ht; subst hb; congr <;> (apply Array.ext'; simpa using by assumption)
        subst hcc
        split at hio
        · rename_i e hte
          obtain ⟨i, h1, h2⟩ := bind_some hio
          obtain ⟨zs, h3, h4⟩ := bind_some h2
          obtain ⟨X, h5, h6⟩ := bind_some h4
          obtain ⟨g1, g2⟩ := compX_rel h5
          split at h6
          · rename_i e' hue
            obtain ⟨Y, h7, h8⟩ := bind_some h6
            split at h8
            · cases h8
            · rename_i hcond
              cases h8
              obtain ⟨g3, g4⟩ := compX_rel h7
              obtain ⟨z, T⟩ := appT_of hte hue (by simp) h1 h3 (fun h => hcond (.inl h)) (fun h => hcond (.inr h))
              exact ev_app R hH hd g1 g2 g3 g4 ho T hr
          · rename_i hue
            obtain ⟨Y, h7, h8⟩ := bind_some h6
            split at h8
            · rename_i hcond
              cases h8
              obtain ⟨z, T⟩ := appT_of hte hue (by simp) h1 h3 (by omega) (by omega)
              rw [hcond.1, hcond.2.1] at T
              exact ev_appS R hH hd g1 g2 (lookX_rel h7).1 ho T hr
            · cases h8
          · cases h6
        · cases hio
      · cases hio
    · rename_i hb
      split at hio
      · rename_i x y t u hx ht
        have hcc : c = ⟨.builtin .min, #[x, y], #[t, u]⟩ := by obtain ⟨cl, ca, ct⟩ := c; simp only at hb hx ht; subst hb; congr <;> (apply Array.ext'; simpa using by assumption)
        subst hcc
        obtain ⟨X, h3, h4⟩ := bind_some hio
        obtain ⟨Y, h5, h6⟩ := bind_some h4
        cases h6
        exact ev_min R hd (lookX_rel h3).1 (lookX_rel h5).1 ho hr
      · cases hio
    · rename_i hb
      split at hio
      · rename_i x y t u hx ht
        have hcc : c = ⟨.builtin .max, #[x, y], #[t, u]⟩ := by obtain ⟨cl, ca, ct⟩ := c; simp only at hb hx ht; subst hb; congr <;> (apply Array.ext'; simpa using by assumption)
        subst hcc
        obtain ⟨X, h3, h4⟩ := bind_some hio
        obtain ⟨Y, h5, h6⟩ := bind_some h4
        cases h6
        exact ev_max R hd (lookX_rel h3).1 (lookX_rel h5).1 ho hr
      · cases hio
    · cases hio
  · cases hio
end
end Go.Abs
end
section
/- Regions: orders. -/
set_option linter.unusedVariables false
set_option linter.unusedSimpArgs false
namespace Go.Abs

/-- The same entries. -/
def St.same (S S' : St) : Prop := ∀ k, S.get k = S'.get k
theorem St.same.refl (S : St) : S.same S := fun _ => rfl
theorem St.same.symm {S S' : St} (h : S.same S') : S'.same S := fun k => (h k).symm
theorem St.same.trans {S S' S'' : St} (h : S.same S') (k : S'.same S'') : S.same S'' := fun x => (h x).trans (k x)
theorem St.same.wr {S S' : St} (h : S.same S') (x : Wr) : (S.wr x).same (S'.wr x) := by
  intro k
  rw [St.get_wr, St.get_wr, h x.k, h k]
theorem St.same.wrs {S S' : St} (h : S.same S') : ∀ ws : List Wr, (S.wrs ws).same (S'.wrs ws)
  | [] => h
  | x :: t => (St.same.wrs h t).wr x

theorem Q.run_same {α : Type} {S S' : St} (h : S.same S') (x : Q α) : x.run S' = x.run S ∧ x.reads S' = x.reads S := Q.run_congr x (fun k _ => (h k).symm)

theorem wrs_get_ne (S : St) : ∀ (ws : List Wr) (k : Key), (∀ x ∈ ws, x.k ≠ k) → (S.wrs ws).get k = S.get k
  | [], _, _ => rfl
  | x :: t, k, h => by
    simp only [St.wrs, St.get_wr]
    rw [if_neg (h x (by simp))]
    exact wrs_get_ne S t k (fun y hy => h y (by simp [hy]))

/-- What writes leave at a key hangs on what was there alone. -/
theorem wrs_get_congr (ws : List Wr) {S S' : St} {k : Key} (h : S.get k = S'.get k) : (S.wrs ws).get k = (S'.wrs ws).get k := by
  induction ws with
  | nil => exact h
  | cons x t ih =>
    simp only [St.wrs, St.get_wr]
    by_cases hk : x.k = k
    · subst hk; rw [if_pos rfl, if_pos rfl, ih]
    · rw [if_neg hk, if_neg hk]; exact ih

theorem wrs_comm (S : St) (u v : List Wr) (h : ∀ x ∈ u, ∀ y ∈ v, x.k ≠ y.k) : ((S.wrs u).wrs v).same ((S.wrs v).wrs u) := by
  intro k
  by_cases hu : ∃ x ∈ u, x.k = k
  · obtain ⟨x, hx, rfl⟩ := hu
    rw [wrs_get_ne _ v x.k (fun y hy e => h x hx y hy e.symm)]
    exact wrs_get_congr u (wrs_get_ne S v x.k (fun y hy e => h x hx y hy e.symm)).symm
  · have hu' : ∀ x ∈ u, x.k ≠ k := fun x hx e => hu ⟨x, hx, e⟩
    rw [wrs_get_ne (S.wrs v) u k hu']
    exact wrs_get_congr v (wrs_get_ne S u k hu')

theorem Foot.apart_inv {x y : Foot} (h : x.apart y = true) : (∀ k ∈ x.w, k ∉ y.r ∧ k ∉ y.w) ∧ ∀ k ∈ y.w, k ∉ x.r := by
  unfold Foot.apart at h
  simp only [Bool.and_eq_true, List.all_eq_true, Bool.not_eq_true', List.contains_eq_mem, decide_eq_false_iff_not] at h
  exact h

theorem evOpsF_same (Cl : Oracle) : ∀ (l : List IOper) {S S' Sf : St} {F : List Foot}, S.same S' → evOpsF Cl l S = some (Sf, F) → ∃ Sf', evOpsF Cl l S' = some (Sf', F) ∧ Sf.same Sf'
  | [], S, S', Sf, F, h, he => by
    simp only [evOpsF, Option.some.injEq, Prod.mk.injEq] at he
    obtain ⟨rfl, rfl⟩ := he
    exact ⟨S', rfl, h⟩
  | o :: t, S, S', Sf, F, h, he => by
    simp only [evOpsF] at he ⊢
    obtain ⟨h1, h2⟩ := Q.run_same h (evOper Cl o)
    rw [h1, h2]
    cases hw : (evOper Cl o).run S with
    | none => simp [hw] at he
    | some ws =>
      simp only [hw, Option.bind_some] at he ⊢
      obtain ⟨⟨S1, F1⟩, h3, h4⟩ := map_some' he
      simp only [Prod.mk.injEq] at h4
      obtain ⟨rfl, rfl⟩ := h4
      obtain ⟨S2, h5, h6⟩ := evOpsF_same Cl t (h.wrs ws) h3
      exact ⟨S2, by rw [h5]; rfl, h6⟩

/-- An operation that is apart from those ahead of it may run first. -/
theorem bring_front (Cl : Oracle) (o : IOper) (f : Foot) (l2 : List IOper) (F2 : List Foot) : ∀ (l1 : List IOper) {S Sf : St} {F1 : List Foot}, F1.length = l1.length → evOpsF Cl (l1 ++ o :: l2) S = some (Sf, F1 ++ f :: F2) → (∀ g ∈ F1, g.apart f = true) →
    ∃ ws, (evOper Cl o).run S = some ws ∧ f = ⟨(evOper Cl o).reads S, ws.map (·.k)⟩ ∧ ∃ Sf', evOpsF Cl (l1 ++ l2) (S.wrs ws) = some (Sf', F1 ++ F2) ∧ Sf.same Sf'
  | [], S, Sf, F1, hl, he, ha => by
    have : F1 = [] := List.length_eq_zero_iff.1 hl
    subst this
    simp only [List.nil_append, evOpsF] at he ⊢
    cases hw : (evOper Cl o).run S with
    | none => simp [hw] at he
    | some ws =>
      simp only [hw, Option.bind_some] at he
      obtain ⟨⟨S1, F1⟩, h3, h4⟩ := map_some' he
      simp only [Prod.mk.injEq, List.cons.injEq] at h4
      obtain ⟨rfl, rfl, rfl⟩ := h4
      exact ⟨ws, rfl, rfl, Sf, h3, St.same.refl _⟩
  | x :: t, S, Sf, F1, hl, he, ha => by
    cases F1 with
    | nil => simp at hl
    | cons g F1 =>
      simp only [List.cons_append, evOpsF] at he
      cases hw : (evOper Cl x).run S with
      | none => simp [hw] at he
      | some wx =>
        simp only [hw, Option.bind_some] at he
        obtain ⟨⟨S1, F'⟩, h3, h4⟩ := map_some' he
        simp only [Prod.mk.injEq, List.cons.injEq] at h4
        obtain ⟨rfl, rfl, rfl⟩ := h4
        obtain ⟨ws, h5, h6, Sf', h7, h8⟩ := bring_front Cl o f l2 F2 t (by simpa using hl) h3 (fun g hg => ha g (by simp [hg]))
        obtain ⟨a1, a2⟩ := Foot.apart_inv (ha ⟨(evOper Cl x).reads S, wx.map (·.k)⟩ (by simp))
        -- o runs the same ahead of x
        have hro : (evOper Cl o).run S = some ws ∧ (evOper Cl o).reads S = (evOper Cl o).reads (S.wrs wx) := by
          have := Q.run_congr (S := S.wrs wx) (S' := S) (evOper Cl o) (fun k hk => by
            refine (wrs_get_ne S wx k ?_).symm
            rintro y hy rfl
            have := (a1 y.k (List.mem_map.2 ⟨y, hy, rfl⟩)).1
            rw [h6] at this
            exact this hk)
          exact ⟨this.1.trans h5, this.2⟩
        have hrx : (evOper Cl x).run (S.wrs ws) = some wx ∧ (evOper Cl x).reads (S.wrs ws) = (evOper Cl x).reads S := by
          have := Q.run_congr (S := S) (S' := S.wrs ws) (evOper Cl x) (fun k hk => by
            refine wrs_get_ne S ws k ?_
            rintro y hy rfl
            exact a2 y.k (by rw [h6]; exact List.mem_map.2 ⟨y, hy, rfl⟩) hk)
          exact ⟨this.1.trans hw, this.2⟩
        have hdis : ∀ y ∈ wx, ∀ z ∈ ws, y.k ≠ z.k := by
          intro y hy z hz e
          have := (a1 y.k (List.mem_map.2 ⟨y, hy, rfl⟩)).2
          rw [h6, e] at this
          exact this (List.mem_map.2 ⟨z, hz, rfl⟩)
        obtain ⟨Sf'', h9, h10⟩ := evOpsF_same Cl (t ++ l2) (wrs_comm S wx ws hdis) h7
        refine ⟨ws, hro.1, by rw [h6, hro.2], Sf'', ?_, h8.trans h10⟩
        simp only [List.cons_append, evOpsF, hrx.1, hrx.2, Option.bind_some, h9, Option.map_some]

/-- Bits of what stands before. -/
theorem before_bits (ops : Array Oper) : (Region.before ops).size = ops.size ∧ ∀ i j, ((Region.before ops).getD i 0).testBit j = true → ∃ o e, ops[i]? = some o ∧ e ∈ o.after ∧ Region.binds .any e = true ∧ (e.on = j ∨ (e.on < i ∧ ((Region.before ops).getD e.on 0).testBit j = true)) := by
  have inner : ∀ (acc : Array Nat) (l : List Edge) (s j : Nat), (l.foldl (fun s e => if Region.binds .any e then s ||| 2 ^ e.on ||| acc.getD e.on 0 else s) s).testBit j = true →
      s.testBit j = true ∨ ∃ e ∈ l, Region.binds .any e = true ∧ (e.on = j ∨ (acc.getD e.on 0).testBit j = true) := by
    intro acc l
    induction l with
    | nil => intro s j h; exact .inl h
    | cons e l ih =>
      intro s j h
      simp only [List.foldl_cons] at h
      rcases ih _ _ h with h | ⟨e', h1, h2, h3⟩
      · split at h
        · rename_i hb
          rw [Nat.testBit_or, Nat.testBit_or, Bool.or_eq_true, Bool.or_eq_true] at h
          rcases h with (h | h) | h
          · exact .inl h
          · rw [Nat.testBit_two_pow] at h
            exact .inr ⟨e, by simp, hb, .inl (by simpa using h)⟩
          · exact .inr ⟨e, by simp, hb, .inr h⟩
        · exact .inl h
      · exact .inr ⟨e', by simp [h1], h2, h3⟩
  have main : ∀ (n : Nat), n ≤ ops.size → ∀ (acc : Array Nat), acc = (ops.toList.take n).foldl (fun acc o => acc.push (o.after.foldl (fun s e => if Region.binds .any e then s ||| 2 ^ e.on ||| acc.getD e.on 0 else s) 0)) #[] →
      acc.size = n ∧ ∀ i j, (acc.getD i 0).testBit j = true → ∃ o e, ops[i]? = some o ∧ e ∈ o.after ∧ Region.binds .any e = true ∧ (e.on = j ∨ (e.on < i ∧ (acc.getD e.on 0).testBit j = true)) := by
    intro n
    induction n with
    | zero =>
      intro _ acc h
      subst h
      exact ⟨rfl, fun i j h => by simp at h⟩
    | succ n ih =>
      intro hn acc h
      rw [List.take_succ_eq_append_getElem (by rw [Array.length_toList]; omega), List.foldl_append] at h
      obtain ⟨acc0, hacc0⟩ : ∃ x, x = (ops.toList.take n).foldl (fun acc o => acc.push (o.after.foldl (fun s e => if Region.binds .any e then s ||| 2 ^ e.on ||| acc.getD e.on 0 else s) 0)) #[] := ⟨_, rfl⟩
      obtain ⟨g1, g2⟩ := ih (by omega) acc0 hacc0
      rw [← hacc0] at h
      clear hacc0 ih
      simp only [List.foldl_cons, List.foldl_nil] at h
      have hpre : ∀ k, k < n → acc.getD k 0 = acc0.getD k 0 := by
        intro k hk
        subst h
        simp only [Array.getD_eq_getD_getElem?]
        rw [Array.getElem?_push, if_neg (by omega)]
      refine ⟨by rw [h]; simp [g1], fun i j hb => ?_⟩
      by_cases hi : i < n
      · rw [hpre i hi] at hb
        obtain ⟨o, e, k1, k2, k3, k4⟩ := g2 i j hb
        refine ⟨o, e, k1, k2, k3, k4.imp id (fun ⟨k5, k6⟩ => ⟨k5, by rw [hpre _ (by omega)]; exact k6⟩)⟩
      · by_cases hin : i = n
        · subst hin
          have hv : acc.getD i 0 = (ops[i]'(by omega)).after.foldl (fun s e => if Region.binds .any e then s ||| 2 ^ e.on ||| acc0.getD e.on 0 else s) 0 := by
            rw [h]
            simp only [Array.getD_eq_getD_getElem?]
            rw [Array.getElem?_push, if_pos (by omega)]
            simp
          rw [hv, ← Array.foldl_toList] at hb
          rcases inner acc0 _ 0 j hb with h0 | ⟨e, k1, k2, k3⟩
          · simp at h0
          · refine ⟨ops[i], e, by simp, by simpa using k1, k2, ?_⟩
            rcases k3 with k3 | k3
            · exact .inl k3
            · have hon : e.on < i := by
                rcases Nat.lt_or_ge e.on i with h | h
                · exact h
                · rw [Array.getD_eq_getD_getElem?, Array.getElem?_eq_none (by omega)] at k3
                  simp at k3
              exact .inr ⟨hon, by rw [hpre _ hon]; exact k3⟩
        · rw [Array.getD_eq_getD_getElem?, Array.getElem?_eq_none (by rw [h]; simp [g1]; omega)] at hb
          simp at hb
  have := main ops.size (Nat.le_refl _) (Region.before ops) (by
    unfold Region.before
    rw [List.take_of_length_le (by rw [Array.length_toList]; exact Nat.le_refl _), Array.foldl_toList])
  exact this

/-- What is listed holds, of each, all that binds it. -/
def Closed (ops : Array Oper) (listed : Array Bool) : Prop := ∀ (i : Nat) o, ops[i]? = some o → listed.getD i true = true → ∀ e ∈ o.after, Region.binds .any e = true → listed.getD e.on false = true

theorem before_listed (ops : Array Oper) (listed : Array Bool) (hs : listed.size = ops.size) (hc : Closed ops listed) : ∀ (n i : Nat), i < n → ∀ o, ops[i]? = some o → (∀ e ∈ o.after, Region.binds .any e = true → listed.getD e.on false = true) →
    ∀ j, ((Region.before ops).getD i 0).testBit j = true → listed.getD j false = true
  | 0, i, hi, _, _, _, _, _ => by omega
  | n + 1, i, hi, o, ho, hr, j, hb => by
    obtain ⟨o', e, h1, h2, h3, h4⟩ := (before_bits ops).2 i j hb
    rw [ho] at h1
    cases h1
    have hl := hr e h2 h3
    rcases h4 with rfl | ⟨h4, h5⟩
    · exact hl
    · have hlt : e.on < ops.size := by
        rcases Nat.lt_or_ge e.on ops.size with h | h
        · exact h
        · rw [Array.getD_eq_getD_getElem?, Array.getElem?_eq_none (by omega)] at hl
          cases hl
      refine before_listed ops listed hs hc n e.on (by omega) ops[e.on] (by simp [hlt]) (hc e.on _ (by simp [hlt]) ?_) j h5
      rw [Array.getD_eq_getD_getElem?] at hl ⊢
      cases hx : listed[e.on]? with
      | none => rfl
      | some b => simpa [hx] using hl
end Go.Abs
end
section
/- Regions against the model's. -/
set_option linter.unusedVariables false
set_option linter.unusedSimpArgs false
namespace Go.Abs
section
variable {nm : FuncId → Option Nat} {N : Nat} {S : St} {a : Act} {w : World} {L : LabF} {P : Program} {o : Oper} {Cl : Oracle} {hh : Hint} {ops : Array Oper}

theorem Rel.same {S S' : St} (h : S.same S') (R : Rel nm N S a w L) : Rel nm N S' a w L := by
  have h1 : S'.E = S.E := funext fun k => by unfold St.E; rw [h k]
  have h2 : S'.γ = S.γ := funext fun k => by unfold St.γ; rw [h k]
  unfold Rel
  rw [h1, h2]; exact R

theorem Done.same {S S' : St} {w0 : World} {L0 : LabF} (h : S.same S') (D : Done nm N S w0 L0 a w L) : Done nm N S' w0 L0 a w L := ⟨D.rel.same h, D.mono, D.noH⟩

theorem yielded_of {j d : Nat} {g : Oper} (hg : ops[j]? = some g) (hd : g.dst = some d) (tmps : Array Value) : yielded ops tmps j = match tmps[d]? with | some (.bool b) => some b | _ => none := by
  unfold yielded
  rw [hg, Option.bind_some, hd, Option.bind_some]
  cases tmps[d]? with
  | none => rfl
  | some v => cases v <;> rfl

theorem oper_sound (hc : CallOk P nm Cl) (R : Rel nm N S a w L) (hH : NoH L) (hN : hh.nt = N) {io : IOper} {i : Nat} (hi : ops[i]? = some o) (hio : compOper P nm hh ops o = some io) {ws : List Wr} (hr : (evOper Cl io).run S = some ws)
    {K : Act → World → Prop} {Qx : Exit → Act → World → Prop} (hK : ∀ a' w' L', Done nm N (S.wrs ws) w L a' w' L' → K a' w') : wpOp P ops Qx i K a w := by
  unfold compOper at hio
  split at hio
  · rename_i hdst
    have hd : ∀ d, o.dst = some d → d < N := by
      intro d hd
      rw [hd] at hdst
      simpa [hN] using hdst
    have wanted : ∀ {v : V} {ws1 : List Wr}, Region.wanted o (yielded ops a.tmps) = true → (evOp Cl (o.dst.getD 0) ((compOp P nm hh o).getD .bad)).run S = some (v, ws1) → ws = wrsOf o.dst v ws1 → wpOp P ops Qx i K a w := by
      intro v ws1 hw hev hws
      unfold wpOp
      rw [hi]
      simp only [hw, if_true]
      left
      cases hcop : compOp P nm hh o with
      | none => rw [hcop] at hev; simp [evOp] at hev
      | some io' =>
        rw [hcop] at hev
        exact (op_sound hc R hH hd hcop hev).wp (fun v' w' ⟨L', D⟩ => hK _ _ _ (by rw [hws]; exact D))
    have skip : Region.wanted o (yielded ops a.tmps) = false → ws = (match o.dst with | some d => [{ k := .s d, v := .tup [] }] | none => []) → wpOp P ops Qx i K a w := by
      intro hw hws
      unfold wpOp
      rw [hi]
      simp only [hw, Bool.false_eq_true, if_false]
      obtain ⟨L', D⟩ := Rel.aft (ws := []) (dst := o.dst) (m := 0) (x := .tup []) (v := undef) R (Mono.refl w L) hd (.tup (us := #[]) rfl rfl (fun i x u h => by simp at h))
      refine hK _ _ _ (by rw [hws]; cases hod : o.dst <;> simpa [wrsOf, hod] using D)
    have fin : ∀ {gd : Option (Nat × Bool)} {want : Bool} {f : Unit}, io = ⟨o.dst, (compOp P nm hh o).getD .bad, gd⟩ → True := fun _ => trivial
    split at hio
    · rename_i hg
      cases hio
      unfold evOper at hr
      obtain ⟨want, h1, h2⟩ := Q.run_bind_some hr
      obtain rfl := Q.run_pure_some h1
      simp only [if_true] at h2
      obtain ⟨⟨v, ws1⟩, h3, h4⟩ := Q.run_bind_some h2
      refine wanted (by unfold Region.wanted; rw [hg]) h3 ?_
      cases hod : o.dst with
      | none => rw [hod] at h4; simpa [wrsOf] using Q.run_pure_some h4
      | some d => rw [hod] at h4; simpa [wrsOf] using Q.run_pure_some h4
    · rename_i j b hg
      split at hio
      · rename_i d hjd
        cases hio
        obtain ⟨g, hgj, hgd⟩ : ∃ g, ops[j]? = some g ∧ g.dst = some d := by
          cases hx : ops[j]? with
          | none => simp [hx] at hjd
          | some g => exact ⟨g, rfl, by simpa [hx] using hjd⟩
        have hy := yielded_of hgj hgd a.tmps
        have hsl := R.slot d
        unfold evOper at hr
        obtain ⟨want, h1, h2⟩ := Q.run_bind_some hr
        have h1' := Q.run_at_some h1
        have hwant : Region.wanted o (yielded ops a.tmps) = want := by
          unfold Region.wanted
          rw [hg]
          simp only
          rw [hy]
          split at h1'
          · rename_i x hx
            obtain rfl := Q.run_pure_some h1'
            have hE : S.E (.s d) = .one (.d (.bool x)) := hx
            rw [hE] at hsl
            have hv := hsl.one_inv.bool_inv
            rw [Array.getD_eq_getD_getElem?] at hv
            cases ht : a.tmps[d]? with
            | none => rw [ht] at hv; simp [undef] at hv
            | some u =>
              rw [ht] at hv
              simp only [Option.getD_some] at hv
              subst hv
              cases x <;> cases b <;> rfl
          · rename_i hx
            obtain rfl := Q.run_pure_some h1'
            have hE : S.E (.s d) = .tup [] := hx
            rw [hE] at hsl
            rw [Array.getD_eq_getD_getElem?] at hsl
            cases ht : a.tmps[d]? with
            | none => rfl
            | some u =>
              rw [ht] at hsl
              simp only [Option.getD_some] at hsl
              cases hsl
              rfl
          · cases h1'
        cases want with
        | true =>
          simp only [if_true] at h2
          obtain ⟨⟨v, ws1⟩, h3, h4⟩ := Q.run_bind_some h2
          refine wanted hwant h3 ?_
          cases hod : o.dst with
          | none => rw [hod] at h4; simpa [wrsOf] using Q.run_pure_some h4
          | some d => rw [hod] at h4; simpa [wrsOf] using Q.run_pure_some h4
        | false =>
          simp only [Bool.false_eq_true, if_false] at h2
          refine skip hwant ?_
          cases hod : o.dst with
          | none => rw [hod] at h2; simpa using Q.run_pure_some h2
          | some d => rw [hod] at h2; simpa using Q.run_pure_some h2
      · cases hio
  · cases hio

theorem compOps_inv {l : List IOper} (h : compOps P nm hh ops = some l) : l.length = ops.size ∧ ∀ (i : Nat) io, l[i]? = some io → ∃ o, ops[i]? = some o ∧ compOper P nm hh ops o = some io := by
  obtain ⟨h1, h2⟩ := mapM_inv _ h
  refine ⟨by simpa using h1, fun i io hi => ?_⟩
  obtain ⟨o, g1, g2⟩ := h2 i io hi
  exact ⟨o, by rw [← Array.getElem?_toList]; exact g1, g2⟩

theorem Done.trans {S S' : St} {a a' : Act} {w0 w w' : World} {L0 L L' : LabF} (h : Done nm N S w0 L0 a w L) (k : Done nm N S' w L a' w' L') : Done nm N S' w0 L0 a' w' L' := ⟨k.rel, h.mono.trans k.mono, k.noH⟩

/-- A region in the order of its text. -/
theorem ops_sound (hc : CallOk P nm Cl) (hN : hh.nt = N) {l : List IOper} (hl : compOps P nm hh ops = some l) {Q : Exit → Act → World → Prop} : ∀ (m k : Nat), k + m = ops.size → ∀ {S Sf : St} {a : Act} {w : World} {L : LabF}, Rel nm N S a w L → NoH L → evOps Cl (l.drop k) S = some Sf →
    (∀ a' w' L', Done nm N Sf w L a' w' L' → Q .normal a' w') → wpOps P ops Q (List.range' k m) a w
  | 0, k, hk, S, Sf, a, w, L, R, hH, he, hQ => by
    obtain ⟨h1, _⟩ := compOps_inv hl
    rw [List.drop_of_length_le (by omega)] at he
    simp only [evOps, Option.some.injEq] at he
    subst he
    exact hQ a w L ⟨R, Mono.refl w L, hH⟩
  | m + 1, k, hk, S, Sf, a, w, L, R, hH, he, hQ => by
    obtain ⟨h1, h2⟩ := compOps_inv hl
    have hkl : k < l.length := by omega
    rw [List.drop_eq_getElem_cons hkl] at he
    simp only [evOps] at he
    cases hw : (evOper Cl l[k]).run S with
    | none => simp [hw] at he
    | some ws =>
      simp only [hw, Option.bind_some] at he
      obtain ⟨o, g1, g2⟩ := h2 k l[k] (by simp)
      rw [List.range'_succ, wpOps_cons]
      exact oper_sound hc R hH hN g1 g2 hw (fun a' w' L' D => ops_sound hc hN hl m (k + 1) (by omega) D.rel D.noH he (fun a'' w'' L'' D' => hQ _ _ _ (D.trans D')))

theorem ready_iff {listed : Array Bool} {i : Nat} : i ∈ Region.ready .any ops listed ↔ i < ops.size ∧ listed.getD i true = false ∧ ∃ o, ops[i]? = some o ∧ ∀ e ∈ o.after, Region.binds .any e = true → listed.getD e.on false = true := by
  unfold Region.ready
  rw [List.mem_filter, List.mem_range]
  simp only [Bool.and_eq_true, Bool.not_eq_true']
  constructor
  · rintro ⟨h1, h2, h3⟩
    refine ⟨h1, h2, ops[i], by simp [h1], ?_⟩
    simp only [Array.getElem?_eq_getElem h1, Option.map_some, Option.getD_some] at h3
    intro e he hb
    have := Array.all_eq_true'.1 h3 e he
    simpa [hb] using this
  · rintro ⟨h1, h2, o, h3, h4⟩
    refine ⟨h1, h2, ?_⟩
    rw [h3]
    simp only [Option.map_some, Option.getD_some]
    rw [Array.all_eq_true']
    intro e he
    cases hb : Region.binds .any e with
    | false => rfl
    | true => simpa [hb] using h4 e he hb

/-- A region whose order is drawn: whatever may run does not touch what else may run. -/
theorem any_sound (hc : CallOk P nm Cl) (hN : hh.nt = N) {l : List IOper} (hl : compOps P nm hh ops = some l) (hok : edgesOk ops = true) {Q : Exit → Act → World → Prop} {φ : Nat → Foot}
    (hφ : ∀ i j, i < j → j < ops.size → ((Region.before ops).getD j 0).testBit i = false → (φ i).apart (φ j) = true) :
    ∀ (fuel : Nat) (rem : List Nat) (listed : Array Bool), rem.length = fuel → listed.size = ops.size → rem.Pairwise (· < ·) → (∀ i, i ∈ rem ↔ i < ops.size ∧ listed.getD i true = false) → Closed ops listed →
    ∀ {S Sf : St} {a : Act} {w : World} {L : LabF}, Rel nm N S a w L → NoH L → evOpsF Cl (rem.map fun i => l.getD i default) S = some (Sf, rem.map φ) → (∀ a' w' L', Done nm N Sf w L a' w' L' → Q .normal a' w') → wpAny P .any ops Q fuel listed a w
  | 0, rem, listed, hlen, hsz, hsort, hrem, hcl, S, Sf, a, w, L, R, hH, he, hQ => by
    have : rem = [] := List.length_eq_zero_iff.1 hlen
    subst this
    simp only [List.map_nil, evOpsF, Option.some.injEq, Prod.mk.injEq, and_true] at he
    subst he
    refine ⟨?_, hQ a w L ⟨R, Mono.refl w L, hH⟩⟩
    rw [List.eq_nil_iff_forall_not_mem]
    intro i hi
    obtain ⟨h1, h2, _⟩ := ready_iff.1 hi
    exact absurd ((hrem i).2 ⟨h1, h2⟩) (by simp)
  | fuel + 1, rem, listed, hlen, hsz, hsort, hrem, hcl, S, Sf, a, w, L, R, hH, he, hQ => by
    obtain ⟨g1, g2⟩ := compOps_inv hl
    refine ⟨?_, ?_⟩
    · -- something may run
      intro hnil
      exfalso
      cases rem with
      | nil => simp at hlen
      | cons r0 rest =>
        have hr0 := (hrem r0).1 (by simp)
        have : r0 ∈ Region.ready .any ops listed := by
          refine ready_iff.2 ⟨hr0.1, hr0.2, ops[r0], by simp [hr0.1], ?_⟩
          intro e he hb
          have h3 := List.all_eq_true.1 hok r0 (List.mem_range.2 hr0.1)
          simp only [Array.getElem?_eq_getElem hr0.1, Option.map_some, Option.getD_some] at h3
          have h4 := Array.all_eq_true'.1 h3 e he
          simp only [hb, Bool.not_true, Bool.false_or, decide_eq_true_eq] at h4
          cases hx : listed.getD e.on true with
          | false =>
            have : e.on ∈ r0 :: rest := (hrem e.on).2 ⟨by omega, hx⟩
            rcases List.mem_cons.1 this with h5 | h5
            · omega
            · have := (List.pairwise_cons.1 hsort).1 e.on h5
              omega
          | true =>
            have hlt : e.on < listed.size := by omega
            simp only [Array.getD_eq_getD_getElem?, Array.getElem?_eq_getElem hlt, Option.getD_some] at hx ⊢
            exact hx
        rw [hnil] at this
        simp at this
    · intro i hi
      obtain ⟨h1, h2, o, h3, h4⟩ := ready_iff.1 hi
      have himem : i ∈ rem := (hrem i).2 ⟨h1, h2⟩
      obtain ⟨l1, l2, hsplit⟩ := List.append_of_mem himem
      subst hsplit
      have hlt : ∀ r ∈ l1, r < i := fun r hr => (List.pairwise_append.1 hsort).2.2 r hr i (by simp)
      have hap : ∀ g ∈ l1.map φ, g.apart (φ i) = true := by
        intro g hg
        obtain ⟨r, hr, rfl⟩ := List.mem_map.1 hg
        refine hφ r i (hlt r hr) h1 ?_
        cases hb : ((Region.before ops).getD i 0).testBit r with
        | false => rfl
        | true =>
          have hrl := before_listed ops listed hsz hcl (i + 1) i (by omega) o h3 h4 r hb
          have hrm := ((hrem r).1 (by simp [hr]))
          have hrs : r < listed.size := by omega
          simp only [Array.getD_eq_getD_getElem?, Array.getElem?_eq_getElem hrs, Option.getD_some] at hrl hrm
          rw [hrl] at hrm
          exact absurd hrm.2 (by simp)
      simp only [List.map_append, List.map_cons] at he
      obtain ⟨ws, k1, _, Sf', k3, k4⟩ := bring_front Cl _ (φ i) _ _ (l1.map fun i => l.getD i default) (by simp) he hap
      have hli : i < l.length := by omega
      have hget : l.getD i default = l[i] := by simp [List.getD_eq_getElem?_getD, hli]
      rw [hget] at k1
      obtain ⟨o', m1, m2⟩ := g2 i l[i] (by simp)
      refine oper_sound hc R hH hN m1 m2 k1 (fun a' w' L' D => ?_)
      rw [← List.map_append, ← List.map_append] at k3
      have hset : ∀ k b, (listed.setIfInBounds i true).getD k b = if k = i then true else listed.getD k b := by
        intro k b
        simp only [Array.getD_eq_getD_getElem?]
        by_cases hki : k = i
        · subst hki
          rw [Array.getElem?_setIfInBounds]
          simp [show k < listed.size by omega]
        · rw [Array.getElem?_setIfInBounds_ne (fun e => hki e.symm), if_neg hki]
      have hsort' : (l1 ++ l2).Pairwise (· < ·) := by
        have := List.pairwise_append.1 hsort
        refine List.pairwise_append.2 ⟨this.1, (List.pairwise_cons.1 this.2.1).2, fun x hx y hy => this.2.2 x hx y (by simp [hy])⟩
      have hni : i ∉ l1 ++ l2 := by
        intro hm
        rcases List.mem_append.1 hm with hm | hm
        · exact Nat.lt_irrefl _ (hlt i hm)
        · exact Nat.lt_irrefl _ ((List.pairwise_cons.1 (List.pairwise_append.1 hsort).2.1).1 i hm)
      refine any_sound hc hN hl hok hφ fuel (l1 ++ l2) (listed.setIfInBounds i true) (by simp at hlen ⊢; omega) (by simpa using hsz) hsort' ?_ ?_ D.rel D.noH k3 (fun a'' w'' L'' D' => hQ _ _ _ ((D.trans D').same k4.symm))
      · intro k
        rw [hset]
        by_cases hki : k = i
        · subst hki
          simp only [if_true]
          exact ⟨fun h => absurd h hni, fun h => by simp at h⟩
        · rw [if_neg hki, ← hrem k]
          simp [List.mem_append, List.mem_cons, hki]
      · intro k ok hok' hk e he hb
        rw [hset] at hk ⊢
        by_cases hki : k = i
        · subst hki
          rw [h3] at hok'
          cases hok'
          have := h4 e he hb
          split
          · rfl
          · exact this
        · rw [if_neg hki] at hk
          have := hcl k ok hok' hk e he hb
          split
          · rfl
          · exact this
end
end Go.Abs
end
