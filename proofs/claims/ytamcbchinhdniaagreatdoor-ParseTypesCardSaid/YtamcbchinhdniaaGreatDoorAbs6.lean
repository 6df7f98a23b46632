/- An evaluator of the model's code over plain data, and that what it answers the model does: part 7 of 10. -/
import Derived.Test.YtamcbchinhdniaaGreatDoorAbs5
import Derived.Lib.UnsafeStr
import Derived.Orders
set_option linter.unusedVariables false
set_option linter.unusedSimpArgs false
namespace Go.Abs
section
section
variable {nm : FuncId → Option Nat} {N : Nat} {S S0 : St} {a : Act} {w w0 : World} {L L0 : LabF} {P : Program} {o : Oper} {Cl : Oracle} {d : Nat} {r : V × List Wr} {ws : List Wr}
theorem ev_app (R : Rel nm N S a w L) (hH : NoH L) (hd : ∀ d, o.dst = some d → d < N) {x y : Operand} {X Y : Abs.X} {t u e : TypeId} {sz bytes : Nat} {i : TypeInfo} {dd : TypeDesc} {z : Value} (hx : OpRel nm X x) (hxo : X.okC = true) (hy : OpRel nm Y y) (hyo : Y.okC = true)
    (ho : o.op = .call ⟨.builtin .append, #[x, y], #[t, u]⟩) (T : AppT P sz bytes t u e i dd z) (hr : (evOp Cl d (.app sz bytes X Y)).run S = some r) : OpsTo P a w o (Aft nm N S w L a o.dst r.1 r.2) := by
  simp only [evOp] at hr
  obtain ⟨⟨av, ws1⟩, h1, h2⟩ := Q.run_bind_some hr
  clear hr
  obtain ⟨⟨src, ws2⟩, h3, h4⟩ := Q.run_bind_some h2
  clear h2
  obtain ⟨⟨v, ws3⟩, h5, h6⟩ := Q.run_bind_some h4
  clear h4
  obtain ⟨L1, O1, V1⟩ := tk_rep (Mid.init R) R (hH.free 1) hyo hy h1
  dsimp only at h3 h5 h6 V1 O1
  unfold rowsOf at h3
  split at h3
  · rename_i c
    obtain ⟨⟨c', ws2'⟩, h7, h8⟩ := Q.run_bind_some h3
    have hV : LimC nm w L S.γ w L1 (S.wrs ws1).γ 1 0 c (a.eval y) := V1
    obtain ⟨L2, O2, R2⟩ := st_rep O1.mid hV h7
    dsimp only at h8
    split at h8
    · rename_i tg sz' rows
      obtain ⟨hg, h9⟩ := Q.run_guard_some h8
      have h10 := Q.run_pure_some h9
      simp only [Prod.mk.injEq] at h10
      obtain ⟨rfl, rfl⟩ := h10
      have hsz : sz' = sz ∨ src = [] := by simpa using hg
      have hf0 : FreeH L2 0 := O2.free (O1.free (hH.free 0) (by omega)) (by omega)
      obtain ⟨L3, O3, V3⟩ := tk_rep O2.mid R hf0 hxo hx h5
      have R3 := RepC.keep (m := 1) (j := 0) O3.keep (fun _ => trivial) R2
      obtain ⟨news, val2, g1, g2, g3, g4⟩ := rows_src (P := P) (sz := sz) R3 hsz
      obtain ⟨v', w', g5, g6⟩ := appTo_rep (ty := o.type) O3.mid T V3 g1 g2 g3 g4 h6 hd
      refine .val ?_ g6
      rw [execOp_builtin ho, show (#[x, y] : Array Operand).map a.eval = #[a.eval x, a.eval y] from by simp]
      exact run_v g5
    · cases h8
  · cases h3
theorem ev_appS (R : Rel nm N S a w L) (hH : NoH L) (hd : ∀ d, o.dst = some d → d < N) {x y : Operand} {X Y : Abs.X} {t u e : TypeId} {i : TypeInfo} {dd : TypeDesc} {z : Value} (hx : OpRel nm X x) (hxo : X.okC = true) (hy : OpRel nm Y y)
    (ho : o.op = .call ⟨.builtin .append, #[x, y], #[t, u]⟩) (T : AppT P 1 1 t u e i dd z) (hr : (evOp Cl d (.appS X Y)).run S = some r) : OpsTo P a w o (Aft nm N S w L a o.dst r.1 r.2) := by
  simp only [evOp] at hr
  obtain ⟨av, h1, h2⟩ := Q.run_bind_some hr
  clear hr
  have r1 := rd_val R hy h1
  split at h2
  · rename_i s
    obtain ⟨⟨v, ws3⟩, h5, h6⟩ := Q.run_bind_some h2
    clear h2
    obtain ⟨L3, O3, V3⟩ := tk_rep (Mid.init R) R (hH.free 0) hxo hx h5
    have e1 := r1.one_inv.str_inv
    have hsrc : Src P 1 w (.string ⟨s.toArray⟩) (D.strB s).length (strCells s) := by
      refine ⟨fun w' => by simp [Builtin.lenOf, bytes_size, strB_len], fun w' _ => ?_, by simp [strCells, strB_len], ?_⟩
      · simp only [Builtin.firstCells, strB_len]
        have hex : (⟨s.toArray⟩ : ByteArray).extract 0 s.length = ⟨s.toArray⟩ := by
          apply ByteArray.ext
          rw [ByteArray.data_extract]
          apply Array.ext'
          simp
        rw [hex]
        have : (⟨s.toArray⟩ : ByteArray).data.map (fun b => Value.int .u8 b.toNat) = strCells s := by
          apply Array.ext'; simp [strCells]
        rw [this]
        rfl
      · intro u hu
        simp only [strCells, List.mem_toArray, List.mem_map] at hu
        obtain ⟨b, _, rfl⟩ := hu
        rfl
    obtain ⟨v', w', g5, g6⟩ := appTo_rep (ty := o.type) O3.mid T V3 hsrc (strB_lens s) (val2 := fun i _ => Value.int .u8 (((s.getD i 0).toNat : Nat) : Int)) (fun i c x hx => by
        obtain ⟨b, g1, rfl, rfl⟩ := strB_cell hx
        simp only [List.getD_eq_getElem?_getD, g1, Option.getD_some]
        exact .plain .int) (fun i c x hx => by
        obtain ⟨b, g1, rfl, rfl⟩ := strB_cell hx
        rw [Nat.zero_add, Nat.mul_one, Nat.add_zero]
        simp [strCells, List.getD_eq_getElem?_getD, g1]) h6 hd
    refine .val ?_ g6
    rw [execOp_builtin ho, show (#[x, y] : Array Operand).map a.eval = #[a.eval x, a.eval y] from by simp, e1]
    exact run_v g5
  · cases h2
theorem ev_mov (R : Rel nm N S a w L) (hH : NoH L) (hd : ∀ d, o.dst = some d → d < N) {x : Operand} {X : Abs.X} (hx : OpRel nm X x) (hxo : X.okC = true) (ho : o.op = .move x ∨ o.op = .assign x)
    (hr : (evOp Cl d (.mov X)).run S = some r) : OpsTo P a w o (Aft nm N S w L a o.dst r.1 r.2) := by
  simp only [evOp] at hr
  obtain ⟨⟨v, ws1⟩, h1, h2⟩ := Q.run_bind_some hr
  clear hr
  obtain ⟨L1, O1, V1⟩ := tk_rep (Mid.init R) R (hH.free 0) hxo hx h1
  have hex : (execOp a.eval o).run P w = .ok (.value (a.eval x)) w := by rcases ho with ho | ho <;> simp [execOp, ho]
  refine .val hex ?_
  have plain : ∀ {r : V × List Wr}, (pure (v, ws1) : Q (V × List Wr)).run S = some r → Aft nm N S w L a o.dst r.1 r.2 (a.eval x) w := by
    intro r h
    obtain rfl := Q.run_pure_some h
    exact O1.mid.rel.aft O1.mid.mono hd (V1.rep O1.mid.stp)
  simp only at h2
  unfold movTo at h2
  split at h2
  · rename_i pl g aa sz rows
    obtain ⟨⟨c, ws2⟩, h3, h4⟩ := Q.run_bind_some h2
    obtain rfl := Q.run_pure_some h4
    obtain ⟨L2, O2, R2⟩ := settle_rep (m := 0) (j := 0) O1.mid V1 h3
    exact O2.mid.rel.aft O2.mid.mono hd (m := 0) (.one R2)
  · rename_i pl g sz off len
    split at h2
    · obtain ⟨⟨c, ws2⟩, h3, h4⟩ := Q.run_bind_some h2
      obtain rfl := Q.run_pure_some h4
      obtain ⟨L2, O2, R2⟩ := st_rep (m := 0) (j := 0) (c := .view pl g sz off len) (v := a.eval x) O1.mid V1 h3
      exact O2.mid.rel.aft O2.mid.mono hd (m := 0) (.one R2)
    · exact plain h2
  · exact plain h2
theorem putCells_rep {m : Nat} {mv : Bool} {r : Root} : ∀ (cs : List C) {ws : List Wr} {L : LabF} (M : Mid nm N S0 w0 L0 ws a w L) (j0 c0 : Nat) (vs : Nat → Value)
    (hc : ∀ j c, cs[j]? = some c → LimC nm w0 L0 S0.γ w L (S0.wrs ws).γ m (j0 + j) c (vs (j0 + j))) {rr : List C × List Wr} (hr : (putCells mv r ws c0 cs).run S0 = some rr),
    ∃ L', Out nm N S0 w0 L0 ws rr.2 a w L L' (fun q => ¬ (q.k = .h m ∧ j0 ≤ q.j)) m ∧ rr.1.length = cs.length ∧ (∀ c ∈ cs, c ≠ .dead) ∧
      ∀ j c, rr.1[j]? = some c → RepC nm w L' (S0.wrs rr.2).γ (.h m) (j0 + j) c (vs (j0 + j))
  | [], ws, L, M, j0, c0, vs, hc, rr, hr => by
    simp only [putCells] at hr
    obtain rfl := Q.run_pure_some hr
    exact ⟨L, Out.refl M _ m, rfl, fun c h => by simp at h, fun j c h => by simp at h⟩
  | c :: cs, ws, L, M, j0, c0, vs, hc, rr, hr => by
    simp only [putCells] at hr
    obtain ⟨⟨c1, ws1⟩, h1, h2⟩ := Q.run_bind_some hr
    clear hr
    obtain ⟨⟨cs2, ws2⟩, h3, h4⟩ := Q.run_bind_some h2
    clear h2
    obtain rfl := Q.run_pure_some h4
    have hcc := hc 0 c rfl
    have hlive : c ≠ .dead := by
      rintro rfl
      cases mv <;> simp [putCell, stMv, stAt, st] at h1
    obtain ⟨L1, O1, R1⟩ : ∃ L', Out nm N S0 w0 L0 ws ws1 a w L L' (fun q => ¬ (q.k = .h m ∧ q.j = j0)) m ∧ RepC nm w L' (S0.wrs ws1).γ (.h m) j0 c1 (vs j0) := by
      cases mv with
      | true => exact stMv_rep M hcc h1
      | false => exact stAt_rep M hcc h1
    obtain ⟨L2, O2, hl, hlv, R2⟩ := putCells_rep cs O1.mid (j0 + 1) (c0 + 1) vs (fun j c h => by
      have := hc (j + 1) c (by simpa using h)
      have := this.keep O1.keep (fun p => by simp)
      rwa [show j0 + 1 + j = j0 + (j + 1) by omega]) h3
    refine ⟨L2, (O1.weaken ?_).trans (O2.weaken ?_), by simp [hl], ?_, ?_⟩
    · intro q hq h; exact hq ⟨h.1, by omega⟩
    · intro q hq h; exact hq ⟨h.1, by omega⟩
    · intro y hy
      rcases List.mem_cons.1 hy with rfl | hy
      · exact hlive
      · exact hlv y hy
    · intro j y hj
      cases j with
      | zero =>
        simp only [List.getElem?_cons_zero, Option.some.injEq] at hj
        subst hj
        exact R1.keep O2.keep (fun p => by simp)
      | succ j =>
        have := R2 j y (by simpa using hj)
        rwa [show j0 + 1 + j = j0 + (j + 1) by omega] at this
theorem fitRow_rep {m : Nat} {Pl : Place} {i : Nat} : ∀ (cs : List C) {ws : List Wr} {L : LabF} (M : Mid nm N S0 w0 L0 ws a w L) (j0 c0 : Nat) (vs : Nat → Value)
    (hc : ∀ j c, cs[j]? = some c → LimC nm w0 L0 S0.γ w L (S0.wrs ws).γ m (j0 + j) c (vs (j0 + j))) {rr : List D × List Wr} (hr : (fitRow Pl i ws c0 cs).run S0 = some rr),
    ∃ L', Out nm N S0 w0 L0 ws rr.2 a w L L' (fun q => ¬ (q.k = .h m ∧ j0 ≤ q.j)) m ∧ rr.1.length = cs.length ∧ (∀ c ∈ cs, c ≠ .dead) ∧
      ∀ j c, rr.1[j]? = some c → RepC nm w L' (S0.wrs rr.2).γ (.h m) (j0 + j) (.d c) (vs (j0 + j))
  | [], ws, L, M, j0, c0, vs, hc, rr, hr => by
    simp only [fitRow] at hr
    obtain rfl := Q.run_pure_some hr
    exact ⟨L, Out.refl M _ m, rfl, fun c h => by simp at h, fun j c h => by simp at h⟩
  | c :: cs, ws, L, M, j0, c0, vs, hc, rr, hr => by
    simp only [fitRow] at hr
    obtain ⟨⟨c1, ws1⟩, h1, h2⟩ := Q.run_bind_some hr
    clear hr
    have hcc := hc 0 c rfl
    have hlive : c ≠ .dead := by
      rintro rfl
      simp [stAt, st] at h1
    obtain ⟨L1, O1, R1⟩ := stAt_rep M hcc h1
    simp only at h2
    split at h2
    · rename_i z
      obtain ⟨⟨cs2, ws2⟩, h3, h4⟩ := Q.run_bind_some h2
      clear h2
      obtain rfl := Q.run_pure_some h4
      obtain ⟨L2, O2, hl, hlv, R2⟩ := fitRow_rep cs O1.mid (j0 + 1) (c0 + 1) vs (fun j c h => by
        have := hc (j + 1) c (by simpa using h)
        have := this.keep O1.keep (fun p => by simp)
        rwa [show j0 + 1 + j = j0 + (j + 1) by omega]) h3
      refine ⟨L2, (O1.weaken ?_).trans (O2.weaken ?_), by simp [hl], ?_, ?_⟩
      · intro q hq h; exact hq ⟨h.1, by omega⟩
      · intro q hq h; exact hq ⟨h.1, by omega⟩
      · intro y hy
        rcases List.mem_cons.1 hy with rfl | hy
        · exact hlive
        · exact hlv y hy
      · intro j y hj
        cases j with
        | zero =>
          simp only [List.getElem?_cons_zero, Option.some.injEq] at hj
          subst hj
          exact R1.keep O2.keep (fun p => by simp)
        | succ j =>
          have := R2 j y (by simpa using hj)
          rwa [show j0 + 1 + j = j0 + (j + 1) by omega] at this
    · cases h2
theorem ev_store (R : Rel nm N S a w L) (hH : NoH L) (hd : ∀ d, o.dst = some d → d < N) {x v : Operand} {X V' : Abs.X} {t : TypeId} {mv : Bool} {n : Nat} (hx : OpRel nm X x) (hv : OpRel nm V' v) (hvo : V'.okC = true)
    (ho : o.op = .store t x v) (ht : szOf P t = some n) (hn : n ≠ 0) (hr : (evOp Cl d (.store mv n X V')).run S = some r) : OpsTo P a w o (Aft nm N S w L a o.dst r.1 r.2) := by
  simp only [evOp] at hr
  obtain ⟨p, h1, h2⟩ := Q.run_bind_some hr
  clear hr
  obtain ⟨⟨vv, ws1⟩, h3, h4⟩ := Q.run_bind_some h2
  clear h2
  obtain ⟨hg, h5⟩ := Q.run_guard_some h4
  clear h4
  simp only [beq_iff_eq] at hg
  have rp := rd_val R hx h1
  obtain ⟨L1, O1, V1⟩ := tk_rep (Mid.init R) R (hH.free 0) hvo hv h3
  dsimp only at V1 O1 hg h5
  have hnt : ∀ vs, vv ≠ .tup vs := by rintro vs rfl; exact hn (by rw [← hg]; rfl)
  have run : ∀ (B o' : Nat), a.eval x = .pointer (some ⟨B, o', none⟩) → (a.eval v).cells.size = n → (∀ j, j < n → (w.cell? ⟨B, o' + j, none⟩).isSome = true) → (∀ j, j < n → w.frozen? ⟨B, o' + j, none⟩ = false) → (∀ u ∈ (a.eval v).cells.toList, u.oneCell' = true) →
      (execOp a.eval o).run P w = .ok .skip (w.setCells B o' (a.eval v).cells.toList) := by
    intro B o' hb hs hc hf h1
    have hst := run_storeCells_cells (P := P) B o' (a.eval v).cells.toList 0 w (by simpa [hs] using hc) (by simpa [hs] using hf) h1
    simp only [Nat.add_zero] at hst
    have : (Instr.storeAt t (a.eval x) (a.eval v)).run P w = .ok () (w.setCells B o' (a.eval v).cells.toList) := by
      rw [hb]
      simp [Instr.storeAt, Instr.sureAddr, storeVar, run_sizeOf' ht, hs, hst]
    simp [execOp, ho, this]
  have limc : ∀ (hlv : ∀ c ∈ vv.cells, c ≠ .dead), (a.eval v).cells.size = n ∧ (∀ j c, vv.cells[j]? = some c → LimC nm w L S.γ w L1 (S.wrs ws1).γ 0 (0 + j) c ((a.eval v).cells.getD (0 + j) undef)) ∧ (∀ u ∈ (a.eval v).cells.toList, u.oneCell' = true) := by
    intro hlv
    obtain ⟨c1, c2⟩ := V1.cells O1.mid.stp hnt hlv
    refine ⟨by omega, fun j c hc => ?_, fun u hu => ?_⟩
    · have hj : j < (a.eval v).cells.size := by rw [← c1]; exact (List.getElem?_eq_some_iff.1 hc).1
      have := c2 j c _ hc (Array.getElem?_eq_getElem hj)
      simpa [Array.getD, hj] using this
    · obtain ⟨j, hj, hju⟩ := List.mem_iff_getElem.1 hu
      have hj' : j < (a.eval v).cells.size := by simpa using hj
      have hcj : j < vv.cells.length := by omega
      have := c2 j vv.cells[j] u (by simp) (by rw [Array.getElem?_eq_getElem hj']; simpa using hju)
      exact (this.rep O1.mid.stp).oneCell (hlv _ (List.getElem_mem hcj))
  split at h5
  · -- a box
    rename_i r0 g c
    obtain ⟨⟨cs, ws2⟩, h6, h7⟩ := Q.run_bind_some h5
    clear h5
    rw [Q.run_bind, atP_run, Option.bind_some] at h7
    obtain ⟨hg2, h8⟩ := Q.run_guard_some h7
    clear h7
    obtain rfl := Q.run_pure_some h8
    simp only [Bool.and_eq_true, Bool.not_eq_true', beq_iff_eq, decide_eq_true_eq] at hg2
    obtain ⟨⟨hG, hgg⟩, hcn⟩ := hg2
    have hlive : ∀ c ∈ vv.cells, c ≠ .dead := by
      have aux : ∀ (l : List C) (ws : List Wr) (c0 : Nat) (rr : List C × List Wr), (putCells mv r0 ws c0 l).run S = some rr → ∀ c ∈ l, c ≠ .dead := by
        intro l
        induction l with
        | nil => intro ws c0 rr _ c hc; simp at hc
        | cons y l ih =>
          intro ws c0 rr h c hc
          simp only [putCells] at h
          obtain ⟨r1, g1, g2⟩ := Q.run_bind_some h
          obtain ⟨r2, g3, _⟩ := Q.run_bind_some g2
          rcases List.mem_cons.1 hc with rfl | hc
          · rintro rfl
            cases mv <;> simp [putCell, stMv, stAt, st] at g1
          · exact ih _ _ _ g3 c hc
      exact aux _ _ _ _ h6
    obtain ⟨hs, hlim, hone⟩ := limc hlive
    obtain ⟨L2, O2, hl2, _, R2⟩ := putCells_rep (m := 0) vv.cells O1.mid 0 c (fun j => (a.eval v).cells.getD j undef) hlim h6
    have hl2' : cs.length = vv.cells.length := hl2
    dsimp only at O2 R2 hl2
    cases rp.one_inv with
    | ptr hv0 hgl hp =>
      obtain ⟨B, o', hB, hval⟩ := hp hgg.symm
      have hB2 := O2.mid.boxes B r0 o' hB
      obtain ⟨B', o'', cur, e, fz, k1, k2, k3, k4⟩ := O2.mid.rel.room r0 hG (by omega)
      obtain rfl := O2.mid.rel.boxInj B' B r0 o'' o' k1 hB2
      obtain rfl : o'' = o' := by rw [k1] at hB2; simpa using hB2
      obtain ⟨L3, hR, hM, _, _⟩ := Rel.boxSets (m := 0) hG cs (a.eval v).cells.toList 0 c (S := S) (ws := ws2) O2.mid.rel hB2 (by simp; omega) (by omega) (by
        intro j y u hy hu
        have := R2 j y hy
        rw [Array.getElem?_toList] at hu
        simpa [Array.getD_eq_getD_getElem?, hu] using this)
      refine .skip (run B' (o'' + c) hval hs (fun j hj => ?_) (fun j hj => ?_) hone) (hR.aft (O2.mid.mono.trans hM) hd (m := 0) (.tup (us := #[]) rfl rfl (fun i x u h => by simp at h)))
      · rw [cell?_of k2]; simp; omega
      · exact frozen?_of k2 k3 (by omega)
  · -- a row
    rename_i pl g sz i c
    obtain ⟨⟨zs, ws2⟩, h6, h7⟩ := Q.run_bind_some h5
    clear h5
    obtain ⟨⟨e, x0, rows⟩, h8, h9⟩ := Q.run_bind_some h7
    clear h7
    obtain ⟨rfl, hgg, hE, hnv⟩ := ownAt_run h8
    obtain ⟨row, hrow, h10⟩ := Q.run_ofO_some h9
    clear h9
    obtain ⟨hg2, h11⟩ := Q.run_guard_some h10
    clear h10
    simp only [decide_eq_true_eq] at hg2
    obtain ⟨ws3, hws, h12⟩ := Q.run_ofO_some h11
    clear h11
    obtain rfl := Q.run_pure_some h12
    have hlive : ∀ c ∈ vv.cells, c ≠ .dead := by
      have aux : ∀ (l : List C) (ws : List Wr) (c0 : Nat) (rr : List D × List Wr), (fitRow pl i ws c0 l).run S = some rr → ∀ c ∈ l, c ≠ .dead := by
        intro l
        induction l with
        | nil => intro ws c0 rr _ c hc; simp at hc
        | cons y l ih =>
          intro ws c0 rr h c hc
          simp only [fitRow] at h
          obtain ⟨⟨y1, wsy⟩, g1, g2⟩ := Q.run_bind_some h
          rcases List.mem_cons.1 hc with rfl | hc
          · rintro rfl
            simp [stAt, st] at g1
          · simp only at g2
            split at g2
            · obtain ⟨r2, g3, _⟩ := Q.run_bind_some g2
              exact ih _ _ _ g3 c hc
            · cases g2
      exact aux _ _ _ _ h6
    obtain ⟨hs, hlim, hone⟩ := limc hlive
    obtain ⟨L2, O2, hl2, _, R2⟩ := fitRow_rep (m := 0) vv.cells O1.mid 0 c (fun j => (a.eval v).cells.getD j undef) hlim h6
    have hl2' : zs.length = vv.cells.length := hl2
    dsimp only at O2 R2 hl2
    cases rp.one_inv with
    | eptr hv0 hh hgl hp =>
      obtain ⟨B, o', hB, hval⟩ := hp hgg
      obtain ⟨u0, hu0⟩ := O2.mid.at_own hh hE hnv
      rcases hu0.own_inv with ⟨hnil, _⟩ | ⟨B', o'', cap, cur, e', fz, val, _, hsz, hL', hB', hfz, hlens, hcap, hroom, hvalc, hrr, hu8⟩
      · rw [hnil] at hrow; simp at hrow
      have hL0 := O2.mid.rows B' pl o'' hh hL'
      obtain rfl := O2.mid.inj0 B' B pl o'' o' hL0 hB
      obtain rfl : o'' = o' := by rw [hL0] at hB; simpa using hB
      dsimp only at hcap hlens hL' hB' hvalc hnv hE hrow hws
      have hi : i < rows.length := (List.getElem?_eq_some_iff.1 hrow).1
      have hrl : row.length = sz := hlens row (List.mem_of_getElem? hrow)
      have hidx : i * sz + sz ≤ cap * sz := by
        have : (i + 1) * sz ≤ cap * sz := Nat.mul_le_mul_right _ (by omega)
        rwa [Nat.add_mul, Nat.one_mul] at this
      obtain ⟨L3, hR, hM, _⟩ := Rel.elSets (m := 0) (sz := sz) (i := i) hh zs (a.eval v).cells.toList 0 c x0 (S0 := S) (ws := ws2) (ws' := ws3) O2.mid.rel hE ⟨rows, hnv⟩ hL' (by simp; omega) hws (by
        intro j y u hy hu
        have := R2 j y hy
        rw [Array.getElem?_toList] at hu
        simpa [Array.getD_eq_getD_getElem?, hu] using this)
      refine .skip (run B' (o'' + i * sz + c) hval hs (fun j hj => ?_) (fun j hj => ?_) hone) (hR.aft (O2.mid.mono.trans hM) hd (m := 0) (.tup (us := #[]) rfl rfl (fun i x u h => by simp at h)))
      · rw [cell?_of hB']; simp; omega
      · exact frozen?_of hB' hfz (by omega)
  · cases h5
theorem st_clean {c : C} {k : Key} {j : Nat} {v : Value} {γ : Key → Nat} {rr : C × List Wr} (h : (st ws c).run S = some rr) (hc : c.clean = true) : rr.1.clean = true := by
  cases c with
  | view pl g sz off len =>
    simp only [st] at h
    obtain ⟨res, h1, h2⟩ := Q.run_bind_some h
    obtain ⟨_, h3⟩ := Q.run_guard_some h2
    obtain rfl := Q.run_pure_some h3
    rfl
  | appd => simp [C.clean] at hc
  | mp => simp [C.clean] at hc
  | mref => simp [st] at h
  | eptr => simp [st] at h
  | bld => simp [st] at h
  | dead => simp [st] at h
  | _ => simp only [st] at h; obtain rfl := Q.run_pure_some h; exact hc
theorem fnCells_rep (R0 : Rel nm N S0 a w0 L0) : ∀ (xs : List Abs.X) (ps : List Operand) {ws : List Wr} {L : LabF} (M : Mid nm N S0 w0 L0 ws a w L) (hp : xs.length = ps.length) (hx : ∀ (j : Nat) X x, xs[j]? = some X → ps[j]? = some x → OpRel nm X x ∧ X.okC = true) {rr : List C × List Wr} (hr : (fnCells ws xs).run S0 = some rr),
    ∃ L', Out nm N S0 w0 L0 ws rr.2 a w L L' (fun q => q.k ≠ .h 0) 0 ∧ rr.1.length = xs.length ∧ cleanL rr.1 = true ∧ ∀ (j : Nat) c x, rr.1[j]? = some c → ps[j]? = some x → RepC nm w L' (S0.wrs rr.2).γ (.h 0) 0 c (a.eval x)
  | [], [], ws, L, M, hp, hx, rr, hr => by
    simp only [fnCells] at hr
    obtain rfl := Q.run_pure_some hr
    exact ⟨L, Out.refl M _ 0, rfl, rfl, fun j c x h => by simp at h⟩
  | X :: xs, x :: ps, ws, L, M, hp, hx, rr, hr => by
    simp only [fnCells] at hr
    obtain ⟨v, h1, h2⟩ := Q.run_bind_some hr
    clear hr
    obtain ⟨hX, hXo⟩ := hx 0 X x rfl rfl
    have rv := rd_val R0 hX h1
    have hcl := rd_own hXo h1
    split at h2
    · rename_i c
      obtain ⟨⟨c1, ws1⟩, h3, h4⟩ := Q.run_bind_some h2
      clear h2
      obtain ⟨⟨cs, ws2⟩, h5, h6⟩ := Q.run_bind_some h4
      clear h4
      obtain rfl := Q.run_pure_some h6
      have hco : c.own = false := own_get (j := 0) hcl rfl
      have hcc : c.clean = true := rv.one_inv.clean_of hco
      obtain ⟨L1, O1, R1⟩ := st_rep (m := 0) (j := 0) M (LimC.of_rep M.stp rv.one_inv hco) h3
      obtain ⟨L2, O2, hl, hcl2, R2⟩ := fnCells_rep R0 xs ps O1.mid (by simpa using hp) (fun j X x h1 h2 => hx (j + 1) X x (by simpa using h1) (by simpa using h2)) h5
      have hc1 : c1.clean = true := st_clean (k := .h 0) (j := 0) (v := undef) (γ := S0.γ) h3 hcc
      refine ⟨L2, (O1.weaken (fun q hq h => hq h.1)).trans O2, by simp [hl], by simp [cleanL, hc1, hcl2], ?_⟩
      intro j y z hj hz
      cases j with
      | zero =>
        simp only [List.getElem?_cons_zero, Option.some.injEq] at hj hz
        subst hj; subst hz
        exact R1.stepClean O2.stp hc1 _ _
      | succ j => exact R2 j y z (by simpa using hj) (by simpa using hz)
    · cases h2
  | [], _ :: _, _, _, _, hp, _, _, _ => by simp at hp
  | _ :: _, [], _, _, _, hp, _, _, _ => by simp at hp
theorem ev_mkfn (R : Rel nm N S a w L) (hH : NoH L) (hd : ∀ d, o.dst = some d → d < N) {fid f : Nat} {first cap : Array Operand} {xs ys : List Abs.X} (hf : nm fid = some f) (hp1 : xs.length = first.toList.length) (hx1 : ∀ (j : Nat) X x, xs[j]? = some X → first.toList[j]? = some x → OpRel nm X x ∧ X.okC = true)
    (hp2 : ys.length = cap.toList.length) (hx2 : ∀ (j : Nat) X x, ys[j]? = some X → cap.toList[j]? = some x → OpRel nm X x ∧ X.okC = true) (ho : o.op = .makeFunc (.func fid) first cap)
    (hr : (evOp Cl d (.mkfn f xs ys)).run S = some r) : OpsTo P a w o (Aft nm N S w L a o.dst r.1 r.2) := by
  simp only [evOp] at hr
  obtain ⟨⟨fa, ws1⟩, h1, h2⟩ := Q.run_bind_some hr
  clear hr
  obtain ⟨⟨fb, ws2⟩, h3, h4⟩ := Q.run_bind_some h2
  clear h2
  obtain rfl := Q.run_pure_some h4
  obtain ⟨L1, O1, hl1, hc1, R1⟩ := fnCells_rep R xs first.toList (Mid.init R) hp1 hx1 h1
  obtain ⟨L2, O2, hl2, hc2, R2⟩ := fnCells_rep R ys cap.toList O1.mid hp2 hx2 h3
  have hl1' : fa.length = xs.length := hl1
  have hl2' : fb.length = ys.length := hl2
  refine .val (v := .func (.func fid) (first.map a.eval) (cap.map a.eval)) (w' := w) ?_ (O2.mid.rel.aft O2.mid.mono hd (m := 0) (.one (.fn hf (by simp; simp at hp1; omega) (by simp; simp at hp2; omega) ⟨hc1, hc2⟩ ?_ ?_)))
  · simp [execOp, ho, Instr.makeFunc]
  · intro j x u h5 h6
    rw [Array.getElem?_map] at h6
    cases hj : first[j]? with
    | none => simp [hj] at h6
    | some y =>
      simp only [hj, Option.map_some, Option.some.injEq] at h6
      subst h6
      exact (R1 j x y h5 (by rw [Array.getElem?_toList]; exact hj)).stepClean O2.stp (cleanL_get hc1 h5) _ _
  · intro j x u h5 h6
    rw [Array.getElem?_map] at h6
    cases hj : cap[j]? with
    | none => simp [hj] at h6
    | some y =>
      simp only [hj, Option.map_some, Option.some.injEq] at h6
      subst h6
      exact R2 j x y h5 (by rw [Array.getElem?_toList]; exact hj)
end
end
section
section
variable {nm : FuncId → Option Nat} {N : Nat} {S S0 : St} {a : Act} {w w0 : World} {L L0 : LabF} {P : Program} {o : Oper} {Cl : Oracle} {d : Nat} {r : V × List Wr} {ws : List Wr}
theorem ev_allocB (R : Rel nm N S a w L) (hd : ∀ d, o.dst = some d → d < N) {t : TypeId} {z1 : C} (ho : o.op = .alloc t) (hz : zeroC P t = some [.nilp, z1])
    (hr : (evOp Cl d (.allocB t [.nilp, z1])).run S = some r) : OpsTo P a w o (Aft nm N S w L a o.dst r.1 r.2) := by
  simp only [evOp] at hr
  obtain ⟨⟨v, ws0⟩, h1, h2⟩ := Q.run_bind_some hr
  clear hr
  obtain rfl := Q.run_pure_some h2
  obtain ⟨i, z, k1, k2, k3, k4, k5⟩ := zeroC_inv hz
  unfold boxed at h1
  rw [Q.run_bind, atP_run, Option.bind_some] at h1
  obtain ⟨hg, h3⟩ := Q.run_guard_some h1
  clear h1
  have h4 := Q.run_pure_some h3
  simp only [Prod.mk.injEq] at h4
  obtain ⟨rfl, rfl⟩ := h4
  have hn : boxN ((S.wrs []).E (.r (.l d))) = 0 ∨ boxN ((S.wrs []).E (.r (.l d))) = [C.nilp, z1].length := by
    simpa using hg
  obtain ⟨R1, hm, _⟩ := Rel.newBox (S := S) (ws := []) (w := w) R (m := 0) (r := .l d) (cs := [.nilp, z1]) (vs := z.cells) (e := t) rfl (by simp) k3.symm hn
    (fun j x v hx hv => (k5 j x v hx hv).rep _ _ _ _ _)
  have hz0 : z.cells[0]? = some (.pointer none) := by
    have hlt : 0 < z.cells.size := by rw [k3]; simp
    obtain ⟨u, hu⟩ : ∃ u, z.cells[0]? = some u := ⟨_, Array.getElem?_eq_getElem hlt⟩
    have := (k5 0 .nilp u rfl hu).rep (nm := fun _ => none) w L (fun _ => 0) (.h 0) 0
    cases this
    exact hu
  have hγ : S.γ (.r (.l d)) + 1 ≤ (S.wrs ({ k := .b (.l d) 0, v := .one (.bld t) } :: cellWrs (.l d) 0 [.nilp, z1] [{ k := .r (.l d), v := sizeV [C.nilp, z1].length }])).γ (.r (.l d)) := by
    simp only [St.wrs, cellWrs, St.γ_wr]
    simp
  have R2 : Rel nm N (S.wrs ({ k := .b (.l d) 0, v := .one (.bld t) } :: cellWrs (.l d) 0 [.nilp, z1] [{ k := .r (.l d), v := sizeV [C.nilp, z1].length }])) a (w.alloc (.cells z.cells t)) (boxL (.l d) [C.nilp, z1].length 0 w L) := by
    refine R1.writeL { k := .b (.l d) 0, v := .one (.bld t) } _ rfl (fun _ h => h) (fun _ _ _ _ _ h => h) (fun _ _ _ h => h) ?_ (fun B l h => ⟨l, h⟩) R1.rowInj (fun _ _ _ h => h)
    refine ⟨.bld t, rfl, fun _ => ⟨?_, ?_⟩⟩
    · simp only [cellWrs, St.wrs, St.E_wr]
      simp [boxN_sizeV]
    · exact ⟨w.heap.size, 0, z.cells, t, (0, 0), .pointer none, boxL_new, heap_alloc_self w _, fun j _ => by simp, hz0, .bld ⟨_, _, rfl⟩ rfl, rfl, rfl, rfl, k3, .inl rfl⟩
  refine .val (v := .pointer (some ⟨w.heap.size, 0, none⟩)) (w' := w.alloc (.cells z.cells t)) ?_ (R2.aft ((Mono.refl w L).trans hm) hd (m := 0) (.one (.ptr ⟨_, rfl⟩ hγ (fun _ => ⟨_, 0, boxL_new, rfl⟩))))
  have : (Instr.alloc t true (.tuple #[])).run P w = .ok (.pointer (some ⟨w.heap.size, 0, none⟩)) (w.alloc (.cells z.cells t)) := by
    simp [Instr.alloc, zeroValue, typeInfo, k1, k2, newVar, newRow]
  simp [execOp, ho, this]
theorem boxedB_rep {S0 : St} {w0 : World} {L0 : LabF} {ws : List Wr} (M : Mid nm N S0 w0 L0 ws a w L) {m : Nat} {z1 : C} {vs : Array Value} {e : TypeId} (hl : [C.nilp, z1].length = vs.size)
    (hx : ∀ (j : Nat) x v, [C.nilp, z1][j]? = some x → vs[j]? = some v → RepC nm w L (S0.wrs ws).γ (.h m) j x v) {r : V × List Wr} (hr : (boxed d [C.nilp, z1] ws).run S0 = some r) {dst : Option Nat} (hd : ∀ d, dst = some d → d < N) :
    Aft nm N S0 w0 L0 a dst r.1 ({ k := .b (.l d) 0, v := .one (.bld e) } :: r.2) (.pointer (some ⟨w.heap.size, 0, none⟩)) (w.alloc (.cells vs e)) := by
  unfold boxed at hr
  rw [Q.run_bind, atP_run, Option.bind_some] at hr
  obtain ⟨hg, h2⟩ := Q.run_guard_some hr
  clear hr
  obtain rfl := Q.run_pure_some h2
  have hn : boxN ((S0.wrs ws).E (.r (.l d))) = 0 ∨ boxN ((S0.wrs ws).E (.r (.l d))) = [C.nilp, z1].length := by simpa using hg
  obtain ⟨R1, hm, _⟩ := M.rel.newBox (r := .l d) (cs := [.nilp, z1]) (vs := vs) (e := e) rfl (by simp) hl hn hx
  have hz0 : vs[0]? = some (.pointer none) := by
    have hlt : 0 < vs.size := by rw [← hl]; simp
    obtain ⟨u, hu⟩ : ∃ u, vs[0]? = some u := ⟨_, Array.getElem?_eq_getElem hlt⟩
    have := hx 0 .nilp u rfl hu
    cases this
    exact hu
  have hγ : S0.γ (.r (.l d)) + 1 ≤ (S0.wrs ({ k := .b (.l d) 0, v := .one (.bld e) } :: cellWrs (.l d) 0 [.nilp, z1] ({ k := .r (.l d), v := sizeV [C.nilp, z1].length } :: ws))).γ (.r (.l d)) := by
    refine Nat.le_trans (Nat.le_trans ?_ (cellWrs_E S0 (.l d) [.nilp, z1] 0 ({ k := .r (.l d), v := sizeV [C.nilp, z1].length } :: ws) (.r (.l d))).2.2.2) (St.γ_wr_le _ _ _)
    simp only [St.wrs, St.γ_wr, if_true]
    have := St.γ_wrs_le S0 ws (.r (.l d))
    simp; exact this
  have hE2 : boxN ((S0.wrs (cellWrs (.l d) 0 [.nilp, z1] ({ k := .r (.l d), v := sizeV [C.nilp, z1].length } :: ws))).E (.r (.l d))) = 2 := by
    rw [((cellWrs_E S0 (.l d) [.nilp, z1] 0 ({ k := .r (.l d), v := sizeV [C.nilp, z1].length } :: ws) (.r (.l d))).2.1 (fun c hc e => by cases e)).1]
    simp only [St.wrs, St.E_wr, if_true, boxN_sizeV]
    rfl
  have R2 : Rel nm N (S0.wrs ({ k := .b (.l d) 0, v := .one (.bld e) } :: cellWrs (.l d) 0 [.nilp, z1] ({ k := .r (.l d), v := sizeV [C.nilp, z1].length } :: ws))) a (w.alloc (.cells vs e)) (boxL (.l d) [C.nilp, z1].length m w L) := by
    refine R1.writeL { k := .b (.l d) 0, v := .one (.bld e) } _ rfl (fun _ h => h) (fun _ _ _ _ _ h => h) (fun _ _ _ h => h) ?_ (fun B l h => ⟨l, h⟩) R1.rowInj (fun _ _ _ h => h)
    refine ⟨.bld e, rfl, fun _ => ⟨?_, ?_⟩⟩
    · rw [hE2]; omega
    · exact ⟨w.heap.size, 0, vs, e, (0, 0), .pointer none, boxL_new, heap_alloc_self w _, fun j _ => by simp, hz0, .bld ⟨_, _, rfl⟩ rfl, rfl, rfl, rfl, hl.symm, .inl rfl⟩
  exact R2.aft (M.mono.trans hm) hd (.one (.ptr (k := .h 0) ⟨_, rfl⟩ hγ (fun _ => ⟨_, 0, boxL_new, rfl⟩)))
theorem ev_boxB (R : Rel nm N S a w L) (hH : NoH L) (hd : ∀ d, o.dst = some d → d < N) {t : TypeId} {n : Nat} {x : Operand} {X : Abs.X} (hx : OpRel nm X x) (hok : X.okC = true) (ho : o.op = .box t x) (hn : n ≠ 0)
    (hr : (evOp Cl d (.boxB t n X)).run S = some r) : OpsTo P a w o (Aft nm N S w L a o.dst r.1 r.2) := by
  simp only [evOp] at hr
  obtain ⟨⟨v, ws1⟩, h1, h2⟩ := Q.run_bind_some hr
  clear hr
  obtain ⟨⟨cs, ws2⟩, h3, h4⟩ := Q.run_bind_some h2
  clear h2
  obtain ⟨hg, h5⟩ := Q.run_guard_some h4
  clear h4
  simp only [beq_iff_eq] at hg
  obtain ⟨L', O, hl, hc⟩ := part_rep (Mid.init R) R (m := 0) (fun B q o hB e => by have := hH B q o hB; rw [e] at this; simp [Key.isPl] at this) hx hok h1 h3 (by omega)
  dsimp only at h5
  split at h5
  · rename_i z hcs
    obtain ⟨⟨r1, ws3⟩, h6, h7⟩ := Q.run_bind_some h5
    clear h5
    obtain rfl := Q.run_pure_some h7
    refine .val (v := .pointer (some ⟨w.heap.size, 0, none⟩)) (w' := w.alloc (.cells (a.eval x).cells t)) ?_ (boxedB_rep O.mid hl hc h6 hd)
    have : (Instr.box t (a.eval x)).run P w = .ok (.pointer (some ⟨w.heap.size, 0, none⟩)) (w.alloc (.cells (a.eval x).cells t)) := by
      simp [Instr.box, newVar, newRow]
    simp [execOp, ho, this]
  · cases h5
theorem ev_sdata (R : Rel nm N S a w L) (hd : ∀ d, o.dst = some d → d < N) {x : Operand} {X : Abs.X} {t : TypeId} (hx : OpRel nm X x)
    (ho : o.op = .call ⟨.builtin .unsafeSliceData, #[x], #[t]⟩) (hr : (evOp Cl d (.sdata X)).run S = some r) : OpsTo P a w o (Aft nm N S w L a o.dst r.1 r.2) := by
  simp only [evOp] at hr
  obtain ⟨v, h1, h2⟩ := Q.run_bind_some hr
  clear hr
  have hv := rd_val R hx h1
  split at h2
  · rename_i pl g sz off len
    obtain ⟨hg, h3⟩ := Q.run_guard_some h2
    obtain rfl := Q.run_pure_some h3
    simp only [Bool.and_eq_true, Bool.not_eq_true', beq_iff_eq, beq_eq_false_iff_ne] at hg
    obtain ⟨hl0, rfl⟩ := hg
    cases hv.one_inv with
    | view hv0 hh hgl hV =>
      obtain ⟨b, cap, hax, hle, hb⟩ := hv0
      obtain ⟨ad, rfl⟩ := Option.isSome_iff_exists.1 hb
      have hc0 : cap ≠ 0 := by omega
      refine opVal R hd (v := .pointer (some ad)) ?_ (.one (.eptr ⟨_, rfl⟩ hh hgl ?_))
      · rw [execOp_builtin ho, show (#[x] : Array Operand).map a.eval = #[a.eval x] from by simp, hax]
        exact run_v (Lib.run_unsafeSliceData_row _ _ _ _ _ _ hc0)
      · intro hgg
        rcases hV hgg with ⟨h0, _⟩ | ⟨B, o', cap', cur, e, fz, h1', _, hL, _⟩
        · exact absurd h0 hl0
        · rw [hax] at h1'
          simp only [Value.slice.injEq, Option.some.injEq] at h1'
          refine ⟨B, o', hL, ?_⟩
          rw [h1'.1]
          simp
  · cases h2
theorem liesAt_at {e : TypeId} (hc : P.cellsOf e = 1) (count off n : Nat) (hn : off + n ≤ count) : liesAt P P.depth e count off e n = true := by
  have hd : P.depth = (2 * (P.types.size + Made.depth) + 1) + 1 := rfl
  rw [hd]
  simp only [liesAt, Bool.or_eq_true]
  left
  rw [hd]
  simp [rowAt, hc, hn, sameLayout]
  exact .inl (Nat.mod_one off)
theorem run_ustr {pt it ty e : TypeId} (hp : P.underlying pt = some (.pointer e)) (hc : P.cellsOf e = 1) {B off cells : Nat} (hsh : w.shape? B = some (e, cells)) {n : Nat} {k : IntKind} (h0 : n ≠ 0) (hn : off + n ≤ cells) (h63 : n ≤ 9223372036854775807) {s : ByteArray}
    (hload : (loadBytes ⟨B, off, none⟩ .empty n).run P w = .ok s w) :
    (Builtin.unsafeString_ #[pt, it] ty #[.pointer (some ⟨B, off, none⟩), .int k n]).run P w = .ok (.string s) (w.freeze ⟨B, off, none⟩ n) := by
  have hlies := liesAt_at (P := P) hc (cells / P.cellsOf e) off n (by rw [hc]; simpa using hn)
  have h63' : ¬ (9223372036854775807 : Int) < (n : Int) := by omega
  have hmax : IntKind.i64.max = 9223372036854775807 := rfl
  have hneg : ¬ (n : Int) < 0 := by omega
  rw [show Builtin.unsafeString_ #[pt, it] ty #[.pointer (some ⟨B, off, none⟩), .int k n] = (asInt (.int k n) >>= _) from rfl]
  simp [asInt, asIntOf, hmax, h63', hneg, h0, variablesAt, hsh, elemOf, run_underlying hp, hlies, hload]
theorem loadBytes_cells {B : Nat} : ∀ (n off : Nat) (acc : ByteArray) (l : List UInt8), l.length = n → (∀ i b, l[i]? = some b → ∃ m, w.cell? ⟨B, off + i, none⟩ = some (.int .u8 m) ∧ b = UInt8.ofNat m.toNat) →
    (loadBytes ⟨B, off, none⟩ acc n).run P w = .ok ⟨acc.data ++ l.toArray⟩ w
  | 0, off, acc, l, hl, h => by
    have : l = [] := List.length_eq_zero_iff.1 hl
    subst this
    simp [loadBytes]
  | n + 1, off, acc, [], hl, h => by cases hl
  | n + 1, off, acc, b :: t, hl, h => by
    obtain ⟨m, h1, rfl⟩ := h 0 b rfl
    rw [Nat.add_zero] at h1
    have ih := loadBytes_cells (B := B) n (off + 1) (acc.push (UInt8.ofNat m.toNat)) t (by simpa using hl) (fun i b' hb => by
      obtain ⟨m', g1, g2⟩ := h (i + 1) b' (by simpa using hb)
      exact ⟨m', by rw [show off + 1 + i = off + (i + 1) by omega]; exact g1, g2⟩)
    simp only [loadBytes, Sem.run_bind, run_load, h1, Result.andThen]
    rw [add_off]
    refine Eq.trans ih ?_
    congr 1
    apply ByteArray.ext
    simp [ByteArray.push]
theorem freeze_other {B off n B' : Nat} (h : B' ≠ B) : (w.freeze ⟨B, off, none⟩ n).heap[B']? = w.heap[B']? := by
  unfold World.freeze
  split
  · rfl
  · simp only [Array.getElem?_modify]
    rw [if_neg (fun e => h e.symm)]
theorem freeze_dom {B off n : Nat} {cur : Array Value} {e : TypeId} {fz : Nat × Nat} (h : w.heap[B]? = some (.cells cur e fz)) : ∃ cur e fz, (w.freeze ⟨B, off, none⟩ n).heap[B]? = some (.cells cur e fz) := by
  unfold World.freeze
  split
  · exact ⟨_, _, _, h⟩
  · simp only [Array.getElem?_modify, if_true, h, Option.map_some]
    obtain ⟨lo, hi⟩ := fz
    simp only
    split <;> exact ⟨_, _, _, rfl⟩
theorem ev_ustr (R : Rel nm N S a w L) (hd : ∀ d, o.dst = some d → d < N) {x y : Operand} {X Y : Abs.X} {t u : TypeId} (hx : OpRel nm X x) (hy : OpRel nm Y y)
    (ho : o.op = .call ⟨.builtin .unsafeString, #[x, y], #[t, u]⟩) (ht : P.underlying t = some (.pointer 5)) (hc1 : P.cellsOf 5 = 1) (hr : (evOp Cl d (.ustr X Y)).run S = some r) : OpsTo P a w o (Aft nm N S w L a o.dst r.1 r.2) := by
  simp only [evOp] at hr
  obtain ⟨v, h1, h2⟩ := Q.run_bind_some hr
  clear hr
  obtain ⟨vn, h3, h4⟩ := Q.run_bind_some h2
  clear h2
  obtain ⟨n, h5, h6⟩ := Q.run_ofO_some h4
  clear h4
  have hv := rd_val R hx h1
  obtain ⟨kn, hn⟩ := asNat_inv (rd_val R hy h3) h5
  split at h6
  · rename_i pl g sz i c
    obtain ⟨⟨e0, x0, rows⟩, h7, h8⟩ := Q.run_bind_some h6
    clear h6
    obtain ⟨rfl, hgg, hE, hnv⟩ := ownAt_run h7
    obtain ⟨hg, h9⟩ := Q.run_guard_some h8
    clear h8
    obtain ⟨s, hs, h10⟩ := Q.run_ofO_some h9
    clear h9
    obtain rfl := Q.run_pure_some h10
    simp only [Bool.and_eq_true, Bool.not_eq_true', beq_iff_eq, beq_eq_false_iff_ne, decide_eq_true_eq] at hg
    obtain ⟨⟨⟨⟨⟨rfl, rfl⟩, rfl⟩, rfl⟩, hn0⟩, hmax⟩ := hg
    cases hv.one_inv with
    | eptr hv0 hh hgl hp =>
      obtain ⟨B, o', hB, hval⟩ := hp hgg
      have M := Mid.init R
      obtain ⟨u0, hu0⟩ := M.at_own hh hE hnv
      rcases hu0.own_inv with ⟨hnil, _⟩ | ⟨B', o'', cap, cur, e', fz, val, _, hsz, hL', hB', hfz, hlens, hcap, hroom, hvalc, hrr, hu8⟩
      · dsimp only at hnil; subst hnil; simp at hn0
      obtain rfl := R.rowInj B' B pl o'' o' hL' hB
      obtain rfl : o'' = o' := by rw [hL'] at hB; simpa using hB
      simp only [Nat.zero_mul, Nat.add_zero, Nat.mul_one] at hval hroom
      dsimp only at hs hL' hB' hlens hcap hvalc hu8 hn0 hmax hn
      obtain ⟨hl, hb⟩ := toBytes_inv rows hs
      have he5 : e' = 5 := hu8 (.inl (noU8_false.2 ⟨fun e => hn0 (by rw [e]; rfl), fun q hq => by
        obtain ⟨i, hi⟩ := List.getElem?_of_mem hq
        obtain ⟨m, g1, g2, _⟩ := hb i (List.getElem?_eq_some_iff.1 hi).1
        rw [hi] at g2
        simp only [Option.some.injEq] at g2
        subst g2
        rfl⟩))
      subst he5
      have hload : (loadBytes ⟨B', o'', none⟩ .empty rows.length).run P w = .ok ⟨s.toArray⟩ w := by
        have := loadBytes_cells (P := P) (w := w) (B := B') rows.length o'' .empty s hl.symm (fun i b hbi => by
          have hi : i < rows.length := by rw [hl]; exact (List.getElem?_eq_some_iff.1 hbi).1
          obtain ⟨m, g1, g2, g3⟩ := hb i hi
          refine ⟨m, ?_, by rw [hbi] at g3; simpa using g3⟩
          rw [cell?_of hB']
          have h := hvalc i 0 _ g1
          have h2 := hrr i 0 _ g1
          rw [Nat.mul_one, Nat.add_zero] at h
          rw [h]
          generalize val i 0 = vv at h2
          cases h2 with
          | plain h2 => cases h2; rfl)
        simpa using this
      have hrun := run_ustr (P := P) (w := w) (ty := o.type) (it := u) (k := kn) ht hc1 (B := B') (off := o'') (cells := cur.size) (by simp [World.shape?, hB']) hn0 (by omega) (by omega) hload
      have O := M.handOn (m := 0) (j := 0) hh (selOf true rows.length) hE hnv
      have hL1 : relab (cellTo pl 0 0 (selOf true rows.length)) L B' = some (.row ⟨.h 0, 0, []⟩ o'') := by
        have := relab_of_row hL' (cellTo_mov (m := 0) (j := 0) (sel := selOf true rows.length) (Under.refl pl) (by rw [rest_self]; rfl))
        rwa [rest_self] at this
      have hR2 : Rel nm N (S.wrs (setWr [] pl.k (killAt ((S.wrs []).E pl.k) pl x0))) a (w.freeze ⟨B', o'', none⟩ rows.length) (relab (cellTo pl 0 0 (selOf true rows.length)) L) := by
        refine O.mid.rel.growH ?_ ?_ O.mid.rel.rowInj O.mid.rel.boxInj
        · intro B2 l hl2 hpl
          refine ⟨freeze_other (fun e => ?_), hl2⟩
          rw [e, hL1] at hl2
          simp only [Option.some.injEq] at hl2
          have := hpl _ _ hl2.symm
          simp [Key.isPl] at this
        · intro B2 l hl2
          by_cases he : B2 = B'
          · subst he; obtain ⟨_, _, _, h3⟩ := freeze_dom (off := o'') (n := rows.length) hB'; exact (Array.getElem?_eq_some_iff.1 h3).1
          · exact heap_lt (O.mid.rel.dom B2 l hl2) (freeze_other he)
      have hM : Mono w (w.freeze ⟨B', o'', none⟩ rows.length) (relab (cellTo pl 0 0 (selOf true rows.length)) L) (relab (cellTo pl 0 0 (selOf true rows.length)) L) := by
        refine ⟨?_, ?_, ?_, ?_, fun B2 hb2 => ⟨hb2, freeze_other (fun e => by rw [e, hL1] at hb2; cases hb2)⟩, fun B2 _ hb2 => ⟨hb2, freeze_other (fun e => by rw [e, hL1] at hb2; cases hb2)⟩, fun _ _ _ h => h⟩ <;>
          (unfold World.freeze; split <;> simp)
      refine .val (v := .string ⟨s.toArray⟩) (w' := w.freeze ⟨B', o'', none⟩ rows.length) ?_ (hR2.aft (O.mid.mono.trans hM) hd (m := 0) (.one (.d (.plain .str))))
      rw [execOp_builtin ho, show (#[x, y] : Array Operand).map a.eval = #[a.eval x, a.eval y] from by simp, hval, hn]
      exact run_v hrun
  · cases h6
end
end
section
section
variable {nm : FuncId → Option Nat} {N : Nat} {S S0 : St} {a : Act} {w w0 : World} {L L0 : LabF} {P : Program} {o : Oper} {Cl : Oracle} {d : Nat} {r : V × List Wr} {ws : List Wr}
abbrev mpl (i : Nat) : Place := ⟨.b (.g i) 0, 0, []⟩
theorem Rel.gsize (h : Rel nm N S a w L) (i : Nat) (hn : boxN (S.E (.r (.g i))) ≤ 1) : Rel nm N (S.wr { k := .r (.g i), v := sizeV 1 }) a w L := by
  have hst : Step w w L L S.γ (S.wr { k := .r (.g i), v := sizeV 1 }).γ :=
    ⟨fun B hB => ⟨hB, rfl⟩, St.γ_wr_le S _, fun B q o _ _ hB => ⟨hB, fun cur e fz h => ⟨cur, h, rfl⟩⟩, fun _ _ _ _ _ _ _ => rfl, fun B r o _ hB => hB⟩
  have hE : ∀ k, k ≠ .r (.g i) → (S.wr { k := .r (.g i), v := sizeV 1 }).E k = S.E k := fun k hk => by rw [St.E_wr]; simp [Ne.symm hk]
  refine ⟨h.size, h.defers, fun j => ?_, fun r c x hx hd => ?_, fun r c => ?_, fun r c hc => ?_, fun r hg hr => ?_, h.dom, h.rowInj, h.boxInj⟩
  · rw [hE _ (by simp)]
    exact (h.slot j).step hst (fun B q o hq hB => by rw [← hq, Place.at_self]; exact ⟨hB, rfl⟩)
  · rw [hE _ (by simp)] at hx
    exact (h.cell r c x hx hd).step hst (fun B q o _ hB => ⟨hB, rfl⟩) (fun B o hB => ⟨hB, fun cur e fz hc => ⟨cur, hc, rfl, rfl⟩⟩)
  · rw [hE _ (by simp)]; exact h.bone r c
  · rw [hE (.b r c) (by simp)]
    by_cases he : r = .g i
    · subst he
      rw [St.E_wr] at hc
      simp only [if_true, boxN_sizeV] at hc
      exact h.bound _ c (by omega)
    · rw [hE _ (by simpa using he)] at hc
      exact h.bound r c hc
  · have he : r ≠ .g i := by rintro rfl; cases hg
    rw [hE _ (by simpa using he)] at hr ⊢
    exact h.room r hg hr
def mapL (n i : Nat) (L : LabF) : LabF := fun B => if B = n then some (.row (mpl i) 0) else match L B with
  | some (.row q o) => if q.k = .b (.g i) 0 then none else some (.row q o)
  | x => x
theorem mapL_of {n i B : Nat} {l : Lab} (h : mapL n i L B = some l) (hn : B ≠ n) : L B = some l ∧ ∀ q o, l = .row q o → q.k ≠ .b (.g i) 0 := by
  unfold mapL at h
  rw [if_neg hn] at h
  split at h
  · rename_i q o hq
    split at h
    · cases h
    · rename_i hk
      cases h
      exact ⟨hq, fun q' o' e => by cases e; exact hk⟩
  · rename_i hx
    exact ⟨h, fun q o e => absurd (e ▸ h) (hx q o)⟩
theorem mapL_row {n i B : Nat} {q : Place} {o' : Nat} (h : L B = some (.row q o')) (hn : B ≠ n) (hk : q.k ≠ .b (.g i) 0) : mapL n i L B = some (.row q o') := by
  unfold mapL; rw [if_neg hn, h]; simp [hk]
theorem mapL_box {n i B : Nat} {q : Root} {o' : Nat} (h : L B = some (.box q o')) (hn : B ≠ n) : mapL n i L B = some (.box q o') := by
  unfold mapL; rw [if_neg hn, h]
theorem mapL_imm {n i B : Nat} (h : L B = some .imm) (hn : B ≠ n) : mapL n i L B = some .imm := by
  unfold mapL; rw [if_neg hn, h]
theorem mapL_none {n i B : Nat} (h : L B = none) (hn : B ≠ n) : mapL n i L B = none := by
  unfold mapL; rw [if_neg hn, h]
theorem Rel.mapNew (h : Rel nm N S a w L) (i : Nat) (hn : 0 < boxN (S.E (.r (.g i)))) :
    Rel nm N (S.wr { k := .b (.g i) 0, v := .one (.mp (.sl (.im false) 2 [])) }) a (w.alloc (.map #[] 0)) (mapL w.heap.size i L) ∧ Mono w (w.alloc (.map #[] 0)) L (mapL w.heap.size i L) := by
  have hlt : ∀ {B l}, L B = some l → B ≠ w.heap.size := fun {B l} hB => Nat.ne_of_lt (h.dom B l hB)
  have hheap : ∀ {B l}, L B = some l → (w.alloc (.map #[] 0)).heap[B]? = w.heap[B]? := fun hB => heap_alloc_lt w _ (hlt hB)
  have hz : (w.alloc (.map #[] 0)).heap.size = w.heap.size + 1 := by simp
  have hself : mapL w.heap.size i L w.heap.size = some (.row (mpl i) 0) := by unfold mapL; rw [if_pos rfl]
  refine ⟨h.write _ rfl h.defers (fun _ _ => rfl) ⟨fun B hB => ⟨mapL_imm hB (hlt hB), hheap hB⟩, St.γ_wr_le S _, ?_, fun B q o _ _ _ hB => hheap hB, fun B r o _ hB => mapL_box hB (hlt hB)⟩
    (fun B q o hk _ hB => ⟨mapL_row hB (hlt hB) hk, hheap hB⟩) (fun B r o _ hB => ⟨mapL_box hB (hlt hB), fun cur e fz hc => ⟨cur, (hheap hB).trans hc, rfl, fun _ _ => rfl⟩⟩) ?_ ?_ ?_ ?_, ?_⟩
  · intro B q o hq hγ hB
    refine ⟨mapL_row hB (hlt hB) (fun e => ?_), fun cur e fz hc => ⟨cur, (hheap hB).trans hc, rfl⟩⟩
    rw [St.γ_wr, e] at hγ
    simp at hγ
  · exact ⟨_, rfl, fun _ => ⟨hn, .map (some w.heap.size), .mp ⟨w.heap.size, #[], 0, rfl, hself, heap_alloc_self w _, false, [], [], rfl, rfl, rfl⟩⟩⟩
  · intro B l hB
    rw [hz]
    by_cases he : B = w.heap.size
    · omega
    · exact Nat.lt_succ_of_lt (h.dom B l (mapL_of hB he).1)
  · intro B B' pl o o' h1 h2
    by_cases he : B = w.heap.size
    · by_cases he' : B' = w.heap.size
      · rw [he, he']
      · rw [he, hself] at h1
        simp only [Option.some.injEq, Lab.row.injEq] at h1
        exact absurd (by rw [← h1.1]) ((mapL_of h2 he').2 _ _ rfl)
    · by_cases he' : B' = w.heap.size
      · rw [he', hself] at h2
        simp only [Option.some.injEq, Lab.row.injEq] at h2
        exact absurd (by rw [← h2.1]) ((mapL_of h1 he).2 _ _ rfl)
      · exact h.rowInj B B' pl o o' (mapL_of h1 he).1 (mapL_of h2 he').1
  · intro B B' q o o' h1 h2
    by_cases he : B = w.heap.size
    · rw [he, hself] at h1; cases h1
    · by_cases he' : B' = w.heap.size
      · rw [he', hself] at h2; cases h2
      · exact h.boxInj B B' q o o' (mapL_of h1 he).1 (mapL_of h2 he').1
  · exact ⟨rfl, rfl, rfl, by rw [hz]; omega, fun B hB => ⟨mapL_imm hB (hlt hB), hheap hB⟩, fun B hl hB => ⟨mapL_none hB (by omega), heap_alloc_lt w _ (by omega)⟩, fun B j o hB => mapL_box hB (hlt hB)⟩
theorem ev_mkmap (R : Rel nm N S a w L) (hd : ∀ d, o.dst = some d → d < N) {t : TypeId} (ho : o.op = .makeMap t none) (hr : (evOp Cl d .mkmap).run S = some r) : OpsTo P a w o (Aft nm N S w L a o.dst r.1 r.2) := by
  simp only [evOp] at hr
  obtain ⟨hg, h1⟩ := Q.run_guard_some (Q.run_at_some (Q.run_at_some hr))
  obtain rfl := Q.run_pure_some h1
  have R1 := R.gsize d (by simpa [St.E] using hg)
  obtain ⟨R2, hm⟩ := R1.mapNew d (by rw [St.E_wr]; simp [boxN_sizeV])
  refine .val (v := .map (some w.heap.size)) (w' := w.alloc (.map #[] 0)) ?_ (Rel.aft (ws := [{ k := .b (.g d) 0, v := .one (.mp (.sl (.im false) 2 [])) }, { k := .r (.g d), v := sizeV 1 }]) R2 hm hd (m := 0)
    (.one (.mref ⟨_, rfl⟩ ?_ (fun _ => ⟨w.heap.size, by unfold mapL; rw [if_pos rfl], rfl⟩))))
  · have : (Instr.makeMap t none).run P w = .ok (.map (some w.heap.size)) (w.alloc (.map #[] 0)) := by
      simp [Instr.makeMap, newObj]
      rfl
    simp [execOp, ho, this]
  · simp only [St.wrs, St.γ_wr]
    simp [St.γ]
theorem Rel.mapSet (h : Rel nm N S a w L) {i B : Nat} {es es' : Array MapEntry} {ck ck' : Nat} {x' : D} {w' : World} (hL : L B = some (.row (mpl i) 0)) (hB : w.heap[B]? = some (.map es ck)) (hb : 0 < boxN (S.E (.r (.g i)))) (hx : MapRows x' es')
    (hw1 : w'.heap[B]? = some (.map es' ck')) (ho : ∀ B', B' ≠ B → w'.heap[B']? = w.heap[B']?) (hsz : w.heap.size ≤ w'.heap.size) (hmo : w'.os = w.os ∧ w'.tape = w.tape ∧ w'.output = w.output) :
    Rel nm N (S.wrs [{ k := .b (.g i) 0, v := .one (.mp x'), keep := true }, { k := .a (.b (.g i) 0), v := V.dead }]) a w' L ∧ Mono w w' L L := by
  have hne : ∀ {B' l}, L B' = some l → l ≠ .row (mpl i) 0 → w'.heap[B']? = w.heap[B']? := by
    intro B' l hl hn
    refine ho B' (fun e => ?_)
    rw [e, hL] at hl
    exact hn (by simpa using hl.symm)
  have hE : ∀ k, (∀ k', k ≠ .a k') → k ≠ .b (.g i) 0 → (S.wrs [{ k := .b (.g i) 0, v := .one (.mp x'), keep := true }, { k := .a (.b (.g i) 0), v := V.dead }]).E k = S.E k := by
    intro k h1 h2
    simp only [St.wrs, St.E_wr]
    rw [if_neg (Ne.symm h2), if_neg (Ne.symm (h1 _))]
  have hEm : (S.wrs [{ k := .b (.g i) 0, v := .one (.mp x'), keep := true }, { k := .a (.b (.g i) 0), v := V.dead }]).E (.b (.g i) 0) = .one (.mp x') := by
    simp only [St.wrs, St.E_wr, if_true]
  have hγ : ∀ k, (S.wrs [{ k := .b (.g i) 0, v := .one (.mp x'), keep := true }, { k := .a (.b (.g i) 0), v := V.dead }]).γ k = if k = .a (.b (.g i) 0) then S.γ k + 1 else S.γ k := by
    intro k
    simp only [St.wrs, St.γ_wr]
    by_cases h1 : Key.b (.g i) 0 = k
    · subst h1; simp
    · by_cases h2 : k = .a (.b (.g i) 0)
      · subst h2; simp
      · simp [h1, h2, Ne.symm h2]
  generalize St.wrs S [{ k := .b (.g i) 0, v := .one (.mp x'), keep := true }, { k := .a (.b (.g i) 0), v := V.dead }] = S' at *
  have hst : Step w w' L L S.γ S'.γ := by
    refine ⟨fun B' hB' => ⟨hB', hne hB' (by simp)⟩, fun k => ?_, ?_, ?_, fun _ _ _ _ hB' => hB'⟩
    · rw [hγ]; split <;> omega
    · intro B' q o hq _ hl
      refine ⟨hl, fun cur e fz hc => ?_⟩
      by_cases he : B' = B
      · rw [he, hB] at hc; cases hc
      · exact ⟨cur, (ho B' he).trans hc, rfl⟩
    · intro B' q o hq _ hγa hl
      refine hne hl (fun e => ?_)
      simp only [Lab.row.injEq] at e
      rw [hγ, e.1, if_pos rfl] at hγa
      omega
  have hoth : ∀ {B' q o}, q.k ≠ .b (.g i) 0 → L B' = some (.row q o) → w'.heap[B']? = w.heap[B']? := fun hq hl => hne hl (fun e => by simp only [Lab.row.injEq] at e; exact hq (by rw [e.1]))
  refine ⟨⟨h.size, h.defers, fun j => ?_, fun r c y hy hyd => ?_, fun r c => ?_, fun r c hc => ?_, fun r hg hr => ?_, fun B' l hl => ?_, h.rowInj, h.boxInj⟩, ?_⟩
  · rw [hE _ (by simp) (by simp)]
    exact (h.slot j).step hst (fun B' q o hq hl => by rw [← hq, Place.at_self]; exact ⟨hl, hoth (by rw [hq]; simp) hl⟩)
  · by_cases he : Key.b r c = .b (.g i) 0
    · rw [he, hEm] at hy
      cases hy
      simp only [Key.b.injEq] at he
      obtain ⟨rfl, rfl⟩ := he
      exact ⟨.map (some B), .mp ⟨B, es', ck', rfl, hL, hw1, hx⟩⟩
    · rw [hE _ (by simp) he] at hy
      exact (h.cell r c y hy hyd).step hst (fun B' q o hq hl => ⟨hl, hoth (by rw [hq]; exact he) hl⟩) (fun B' o hl => ⟨hl, fun cur e fz hc => ⟨cur, (hne hl (by simp)).trans hc, rfl, rfl⟩⟩)
  · by_cases he : Key.b r c = .b (.g i) 0
    · rw [he, hEm]; exact ⟨_, rfl⟩
    · rw [hE _ (by simp) he]; exact h.bone r c
  · rw [hE (.r r) (by simp) (by simp)] at hc
    by_cases he : Key.b r c = .b (.g i) 0
    · simp only [Key.b.injEq] at he
      obtain ⟨rfl, rfl⟩ := he
      omega
    · rw [hE _ (by simp) he]; exact h.bound r c hc
  · rw [hE (.r r) (by simp) (by simp)] at hr ⊢
    obtain ⟨B', o, cur, e, fz, h1, h2, h3, h4⟩ := h.room r hg hr
    exact ⟨B', o, cur, e, fz, h1, (hne h1 (by simp)).trans h2, h3, h4⟩
  · exact Nat.lt_of_lt_of_le (h.dom B' l hl) hsz
  · exact ⟨hmo.1, hmo.2.1, hmo.2.2, hsz, fun B' hB' => ⟨hB', hne hB' (by simp)⟩, fun B' _ hl => ⟨hl, ho B' (fun e => by rw [e, hL] at hl; cases hl)⟩, fun _ _ _ hl => hl⟩
theorem Rel.mapAt (R : Rel nm N S a w L) {i g : Nat} {k : Key} {j : Nat} {v : Value} {x : D} (hv : RepC nm w L S.γ k j (.mref i g) v) (hE : (S.get (.b (.g i) 0)).v = .one (.mp x)) (hg : (S.get (.b (.g i) 0)).g = g) :
    ∃ B es ck, v = .map (some B) ∧ L B = some (.row (mpl i) 0) ∧ w.heap[B]? = some (.map es ck) ∧ MapRows x es ∧ 0 < boxN (S.E (.r (.g i))) := by
  cases hv with
  | mref hv0 hgl h =>
    obtain ⟨B, h1, h2⟩ := h hg.symm
    obtain ⟨u, hu⟩ := R.cell (.g i) 0 (.mp x) hE (by simp)
    cases hu with
    | mp h3 =>
      obtain ⟨B', es, ck, _, g1, g2, g3⟩ := h3
      have hbb := R.rowInj B B' _ _ _ h1 g1
      subst hbb
      refine ⟨B, es, ck, h2, h1, g2, g3, ?_⟩
      rcases Nat.eq_zero_or_pos (boxN (S.E (.r (.g i)))) with h0 | h0
      · have := R.bound (.g i) 0 (by omega)
        unfold St.E at this
        rw [hE] at this; cases this
      · exact h0
theorem isStrD_inv {t : Option TypeDesc} (h : isStrD t = true) : t = some .string := by
  unfold isStrD at h; split at h
  · rfl
  · cases h
theorem zeroB_inv {e : TypeId} (h : zeroB P e = true) : ∃ i, P.info? e = some i ∧ i.zero = some (.bool false) := by
  unfold zeroB at h
  split at h
  · rename_i i hi
    split at h
    · exact ⟨i, hi, by assumption⟩
    · cases h
  · cases h
theorem ba_eq {s t : List UInt8} : ((⟨s.toArray⟩ : ByteArray) == ⟨t.toArray⟩) = (s == t) := by
  show (s.toArray == t.toArray) = _
  simp
theorem findNow_rows {s : List UInt8} : ∀ (l : List (List UInt8 × Bool)) (es : List MapEntry) (n : Nat), es.map (fun e => (e.key, e.val)) = l.map (fun p => (Value.string ⟨p.1.toArray⟩, Value.bool p.2)) →
    ∃ x, Instr.findNow .string (.string ⟨s.toArray⟩) es n = some x ∧ (match x with
      | some (m, v) => n ≤ m ∧ v = .bool (mgetB (l.map fun p => [.str p.1, .bool p.2]) s) ∧ m - n < l.length ∧ (∃ e, es[m - n]? = some e ∧ e.key = .string ⟨s.toArray⟩) ∧
          ∀ b, mputB (l.map fun p => [.str p.1, .bool p.2]) s b = (l.set (m - n) (s, b)).map fun p => [.str p.1, .bool p.2]
      | none => mgetB (l.map fun p => [.str p.1, .bool p.2]) s = false ∧ ∀ b, mputB (l.map fun p => [.str p.1, .bool p.2]) s b = (l ++ [(s, b)]).map fun p => [.str p.1, .bool p.2])
  | [], es, n, h => by
    have : es = [] := by simpa using h
    subst this
    exact ⟨none, rfl, rfl, fun b => rfl⟩
  | p :: l, es, n, h => by
    cases es with
    | nil => cases h
    | cons e es =>
      simp only [List.map_cons, List.cons.injEq, Prod.mk.injEq] at h
      obtain ⟨⟨h1, h2⟩, h3⟩ := h
      have hnow : Instr.findNow .string (.string ⟨s.toArray⟩) (e :: es) n = if (s == p.1) = true then some (some (n, e.val)) else Instr.findNow .string (.string ⟨s.toArray⟩) es (n + 1) := by
        simp only [Instr.findNow, h1, Instr.sameNow, ba_eq]
        cases hb : s == p.1 <;> rfl
      rw [hnow]
      by_cases he : s = p.1
      · subst he
        refine ⟨some (n, e.val), by simp, Nat.le_refl n, by rw [h2]; simp [mgetB], by simp, ⟨e, by simp, h1⟩, fun b => by simp [mputB]⟩
      · have hbf : (s == p.1) = false := beq_eq_false_iff_ne.2 he
        obtain ⟨x, g1, g2⟩ := findNow_rows (s := s) l es (n + 1) h3
        refine ⟨x, by simp [hbf, g1], ?_⟩
        have hg : mgetB ([D.str p.1, D.bool p.2] :: l.map fun p => [.str p.1, .bool p.2]) s = mgetB (l.map fun p => [.str p.1, .bool p.2]) s := by simp [mgetB, hbf]
        have hp : ∀ b, mputB ([D.str p.1, D.bool p.2] :: l.map fun p => [.str p.1, .bool p.2]) s b = [D.str p.1, D.bool p.2] :: mputB (l.map fun p => [.str p.1, .bool p.2]) s b := fun b => by simp [mputB, hbf]
        simp only [List.map_cons]
        cases x with
        | none =>
          obtain ⟨k1, k2⟩ := g2
          exact ⟨by rw [hg]; exact k1, fun b => by rw [hp, k2]; rfl⟩
        | some y =>
          obtain ⟨m, v⟩ := y
          obtain ⟨k1, k2, k3, ⟨e', k4, k5⟩, k6⟩ := g2
          have hm : m - n = (m - (n + 1)) + 1 := by omega
          refine ⟨by omega, by rw [hg]; exact k2, by simp only [List.length_cons]; omega, ⟨e', by rw [hm]; simpa using k4, k5⟩, fun b => ?_⟩
          rw [hp, k6, hm]; rfl
theorem mcheck' {t : TypeId} {P : Program} {w : World} {b : Bool} {s : ByteArray} (n : Nat) (h : P.underlying t = some .string) : (Instr.checkKey b (n + 1) t (.string s)).run P w = .ok () w := by
  simp [Instr.checkKey, run_underlying h]
theorem mcheck {t : TypeId} {P : Program} {w : World} {b : Bool} {s : ByteArray} (h : P.underlying t = some .string) : (Instr.checkKey b 10000 t (.string s)).run P w = .ok () w := mcheck' 9999 h
theorem ev_mget (R : Rel nm N S a w L) (hd : ∀ d, o.dst = some d → d < N) {x y : Operand} {X Y : Abs.X} {t kt e : TypeId} (hx : OpRel nm X x) (hy : OpRel nm Y y) (ho : o.op = .lookup t x y false)
    (ht : P.underlying t = some (.map kt e)) (hk : P.underlying kt = some .string) (hz : zeroB P e = true) (hr : (evOp Cl d (.mget X Y)).run S = some r) : OpsTo P a w o (Aft nm N S w L a o.dst r.1 r.2) := by
  simp only [evOp] at hr
  obtain ⟨v, h1, h2⟩ := Q.run_bind_some hr
  obtain ⟨u, h3, h4⟩ := Q.run_bind_some h2
  have hv := rd_val R hx h1
  have hu := rd_val R hy h3
  clear hr h2
  split at h4
  · rename_i i g s
    have h5 := Q.run_at_some h4
    split at h5
    · rename_i tg sz rows hE
      obtain ⟨hg, h6⟩ := Q.run_guard_some h5
      obtain rfl := Q.run_pure_some h6
      obtain ⟨B, es, ck, g1, g2, g3, ⟨tb, rows', l, g4, g5, g6⟩, g7⟩ := R.mapAt hv.one_inv hE (by simpa using hg)
      simp only [D.sl.injEq] at g4
      obtain ⟨_, _, rfl⟩ := g4
      subst g5
      have hs := hu.one_inv.str_inv
      obtain ⟨f, k1, k2⟩ := findNow_rows (s := s) l es.toList 0 g6
      have hfk : (Instr.findKey kt (.string ⟨s.toArray⟩) es.toList).run P w = .ok f w := by
        simp [Instr.findKey, run_underlying hk, k1]
      refine opVal R hd (v := .bool (mgetB (l.map fun p => [.str p.1, .bool p.2]) s)) ?_ (.one (.d (.plain .bool)))
      have : (Instr.lookup t (a.eval x) (a.eval y) false).run P w = .ok (.bool (mgetB (l.map fun p => [.str p.1, .bool p.2]) s)) w := by
        rw [g1, hs]
        simp only [Instr.lookup]
        cases f with
        | some f =>
          obtain ⟨m, fv⟩ := f
          simp only at k2
          simp [run_underlying ht, getObj, Sem.run, g3, mcheck hk, hfk, k2.2.1]
        | none =>
          simp only at k2
          obtain ⟨i, hi, hz'⟩ := zeroB_inv hz
          simp [run_underlying ht, getObj, Sem.run, g3, mcheck hk, hfk, k2.1, zeroValue, typeInfo, hi, hz']
      simp [execOp, ho, this]
    · cases h5
  · cases h4
theorem map_modify {α β : Type} {f : α → α} {g : α → β} {y : β} : ∀ (l : List α) (i : Nat), (∀ x, g (f x) = y) → (l.modify i f).map g = (l.map g).set i y
  | [], i, h => by simp
  | x :: l, 0, h => by simp [h]
  | x :: l, i + 1, h => by simp [map_modify l i h]
theorem ev_mset (R : Rel nm N S a w L) (hd : ∀ d, o.dst = some d → d < N) {x y z : Operand} {X Y Z : Abs.X} {t kt e : TypeId} (hx : OpRel nm X x) (hy : OpRel nm Y y) (hz : OpRel nm Z z) (ho : o.op = .mapUpdate t x y z)
    (ht : P.underlying t = some (.map kt e)) (hk : P.underlying kt = some .string) (hr : (evOp Cl d (.mset X Y Z)).run S = some r) : OpsTo P a w o (Aft nm N S w L a o.dst r.1 r.2) := by
  simp only [evOp] at hr
  obtain ⟨v, h1, h2⟩ := Q.run_bind_some hr
  obtain ⟨u, h3, h4⟩ := Q.run_bind_some h2
  obtain ⟨q, h5, h6⟩ := Q.run_bind_some h4
  have hv := rd_val R hx h1
  have hu := rd_val R hy h3
  have hq := rd_val R hz h5
  clear hr h2 h4
  split at h6
  · rename_i i g s b
    have h7 := Q.run_at_some h6
    split at h7
    · rename_i tg sz rows hE
      obtain ⟨hg, h8⟩ := Q.run_guard_some h7
      obtain rfl := Q.run_pure_some h8
      obtain ⟨B, es, ck, g1, g2, g3, ⟨tb, rows', l, g4, g5, g6⟩, g7⟩ := R.mapAt hv.one_inv hE (by simpa using hg)
      simp only [D.sl.injEq] at g4
      obtain ⟨_, _, rfl⟩ := g4
      subst g5
      have hs := hu.one_inv.str_inv
      have hb := RepC.bool_inv hq.one_inv
      obtain ⟨f, k1, k2⟩ := findNow_rows (s := s) l es.toList 0 g6
      have hfk : (Instr.findKey kt (.string ⟨s.toArray⟩) es.toList).run P w = .ok f w := by
        simp [Instr.findKey, run_underlying hk, k1]
      have hBlt : B < w.heap.size := (Array.getElem?_eq_some_iff.1 g3).1
      have fin : ∀ es' ck', MapRows (.sl (.im false) 2 (mputB (l.map fun p => [.str p.1, .bool p.2]) s b)) es' →
          (Instr.mapUpdate t (a.eval x) (a.eval y) (a.eval z)).run P w = .ok () { w with heap := w.heap.setIfInBounds B (.map es' ck') } →
          OpsTo P a w o (Aft nm N S w L a o.dst (.tup []) [{ k := .b (.g i) 0, v := .one (.mp (.sl (.im false) 2 (mputB (l.map fun p => [.str p.1, .bool p.2]) s b))), keep := true }, { k := .a (.b (.g i) 0), v := V.dead }]) := by
        intro es' ck' hm hrun
        obtain ⟨R', hm'⟩ := R.mapSet (w' := { w with heap := w.heap.setIfInBounds B (.map es' ck') }) (ck' := ck') g2 g3 g7 hm (by simp [hBlt]) (fun B' hne => by simp [Array.getElem?_setIfInBounds, Ne.symm hne]) (by simp) ⟨rfl, rfl, rfl⟩
        refine .skip ?_ (R'.aft hm' hd (m := 0) (.tup (us := #[]) rfl rfl (fun i x u h => by simp at h)))
        simp [execOp, ho, hrun]
      cases f with
      | some f =>
        obtain ⟨m, fv⟩ := f
        simp only [Nat.sub_zero] at k2
        obtain ⟨k3, k4, k5, ⟨e', k6, k7⟩, k8⟩ := k2
        have k6' : es[m]? = some e' := by simpa using k6
        refine fin (es.modify m fun e => { e with key := .string ⟨s.toArray⟩, val := .bool b }) ck ⟨false, _, _, rfl, k8 b, ?_⟩ ?_
        · rw [Array.toList_modify, map_modify (g := fun e : MapEntry => (e.key, e.val)) (y := (Value.string ⟨s.toArray⟩, Value.bool b)) _ _ (fun _ => rfl), g6, List.map_set]
        · have hstay : (Instr.keyThatStays (.string ⟨s.toArray⟩) (.string ⟨s.toArray⟩)).run P w = .ok (.string ⟨s.toArray⟩) w := by
            simp [Instr.keyThatStays, Instr.sameBits, ba_eq]
          rw [g1, hs, hb]
          simp [Instr.mapUpdate, run_underlying ht, getObj, setObj, Sem.run, g3, mcheck hk, hfk, k6', k7, hstay]
      | none =>
        simp only at k2
        refine fin (es.push { key := .string ⟨s.toArray⟩, val := .bool b, born := ck }) (ck + 1) ⟨false, _, _, rfl, k2.2 b, ?_⟩ ?_
        · simp [g6]
        · rw [g1, hs, hb]
          simp [Instr.mapUpdate, run_underlying ht, getObj, setObj, Sem.run, g3, mcheck hk, hfk]
    · cases h7
  · cases h6
end
end
section
def GI (G : Nat → Option Obj) (w : World) (L : LabF) : Prop := ∀ B c, G B = some c → L B = some .imm ∧ w.heap[B]? = some c
theorem GI.mono {G : Nat → Option Obj} {w w' : World} {L L' : LabF} (h : GI G w L) (m : Mono w w' L L') : GI G w' L' :=
  fun B c hB => ⟨(m.imm B (h B c hB).1).1, (m.imm B (h B c hB).1).2.trans (h B c hB).2⟩
theorem GI.none (w : World) (L : LabF) : GI (fun _ => Option.none) w L := fun _ _ h => by cases h
section
variable {nm : FuncId → Option Nat} {G : Nat → Option Obj} {N : Nat} {S : St} {a : Act} {w : World} {L : LabF} {P : Program} {o : Oper} {Cl : Oracle} {d : Nat} {r : V × List Wr} {hh : Hint}
def CallOk (P : Program) (nm : FuncId → Option Nat) (G : Nat → Option Obj) (Cl : Oracle) : Prop :=
  ∀ {N : Nat} {S : St} {a : Act} {w : World} {L : LabF} {o : Oper} {d : Nat} {r : V × List Wr} {c : Call} {f : Operand} {F : X} {xs : List (Bool × X)}, Rel nm N S a w L → NoH L → GI G w L → (∀ d, o.dst = some d → d < N) → o.op = .call c → c.callee = .value f → OpRel nm F f → F.okC = true →
    xs.length = c.args.toList.length → (∀ (j : Nat) x y, xs[j]? = some x → c.args.toList[j]? = some y → OpRel nm x.2 y ∧ x.2.okC = true) → (evOp Cl d (.call F xs)).run S = some r → OpsTo P a w o (Aft nm N S w L a o.dst r.1 r.2)
theorem bind_some {α β : Type} {x : Option α} {f : α → Option β} {r : β} (h : (x >>= f) = some r) : ∃ y, x = some y ∧ f y = some r := by
  cases x with
  | none => cases h
  | some y => exact ⟨y, rfl, h⟩
theorem map_some' {α β : Type} {x : Option α} {f : α → β} {r : β} (h : x.map f = some r) : ∃ y, x = some y ∧ r = f y := by
  cases x with
  | none => cases h
  | some y => exact ⟨y, rfl, by simpa using h.symm⟩
theorem elemsOk_of {e : TypeId} : ∀ (ps : List (Nat × Operand)) {xs : List (Nat × X)}, ps.mapM (compElem P nm hh e) = some xs → ElemsOk nm xs ps
  | [], xs, h => by
    have : xs = [] := by simpa using h.symm
    subst this
    trivial
  | p :: ps, xs, h => by
    rw [List.mapM_cons] at h
    obtain ⟨y, h1, h2⟩ := bind_some h
    obtain ⟨ys, h3, h4⟩ := bind_some h2
    have : xs = y :: ys := by simpa using h4.symm
    subst this
    unfold compElem at h1
    obtain ⟨x, h5, rfl⟩ := map_some' h1
    obtain ⟨g1, g2⟩ := compX_rel h5
    exact ⟨rfl, g1, g2, elemsOk_of ps h3⟩
theorem partsOk_of {fs : Array Field} : ∀ (ps : List (Nat × Operand)) {xs : List (Nat × Nat × X)}, ps.mapM (compPart P nm hh fs) = some xs → PartsOk nm (fun i => (fs.map fun f => (f.offset, (szOf P f.type).getD 0))[i]?) xs ps
  | [], xs, h => by
    have : xs = [] := by simpa using h.symm
    subst this
    trivial
  | p :: ps, xs, h => by
    rw [List.mapM_cons] at h
    obtain ⟨y, h1, h2⟩ := bind_some h
    obtain ⟨ys, h3, h4⟩ := bind_some h2
    have : xs = y :: ys := by simpa using h4.symm
    subst this
    unfold compPart at h1
    split at h1
    · rename_i f hf
      split at h1
      · rename_i n x hn hx
        split at h1
        · cases h1
        · rename_i hn0
          cases h1
          obtain ⟨g1, g2⟩ := compX_rel hx
          refine ⟨?_, hn0, g1, g2, partsOk_of ps h3⟩
          simp [Array.getElem?_map, hf, hn]
      · cases h1
    · cases h1
theorem lookOpt {t : TypeId} {lo : Option Operand} {LO : Option X} (h : (match lo with | none => some none | some v => (lookX P nm t v).map some) = some LO) :
    (∀ x, lo = some x → ∃ y, LO = some y ∧ OpRel nm y x) ∧ (lo = none → LO = none) := by
  cases lo with
  | none =>
    have : LO = none := by simpa using h.symm
    exact ⟨(fun x hx => by cases hx), fun _ => this⟩
  | some v =>
    obtain ⟨y, h1, rfl⟩ := map_some' h
    exact ⟨fun x hx => by cases hx; exact ⟨y, rfl, (lookX_rel h1).1⟩, fun hx => by cases hx⟩
theorem isU8_inv {t : TypeId} (h : isU8 (P.underlying t) = true) : P.underlying t = some (.int .u8) := by
  unfold isU8 at h
  split at h
  · assumption
  · cases h
theorem byU8_ok {e : TypeId} {b : Nat} : b ≤ byU8 e b ∧ (byU8 e b = 1 → e = 5) := by
  unfold byU8
  by_cases he : e = u8T
  · rw [if_pos he]; exact ⟨Nat.le_refl _, fun _ => he⟩
  · rw [if_neg he]
    by_cases hb : b = 1
    · rw [if_pos hb]; exact ⟨by omega, fun h => by cases h⟩
    · rw [if_neg hb]; exact ⟨Nat.le_refl _, fun h => absurd h hb⟩
theorem appT_of {t u e : TypeId} {i : TypeInfo} {dd : TypeDesc} {zs : List C} (ht : P.underlying t = some (.slice e)) (hu : P.underlying u = some dd) (hd : ∀ k, dd ≠ .int k) (hi : P.info? e = some i) (hz : zeroC P e = some zs) (hs : i.size ≠ 0) (hb : i.bytes ≠ 0) :
    ∃ z, AppT P i.size (byU8 e i.bytes) t u e i dd z := by
  obtain ⟨i', z, k1, k2, k3, k4, k5⟩ := zeroC_inv hz
  obtain rfl : i' = i := by rw [hi] at k1; simpa using k1.symm
  exact ⟨z, ht, hu, hd, hi, k2, rfl, k4, Nat.pos_of_ne_zero hs, byU8_ok.1, hb, byU8_ok.2⟩
theorem zip_mapM {l1 : List Operand} {l2 : List TypeId} {xs : List X} (h : (l1.zip l2).mapM (fun x => compX P nm hh x.2 x.1) = some xs) (hl : l1.length = l2.length) : xs.length = l1.length ∧ ∀ (j : Nat) x y, xs[j]? = some x → l1[j]? = some y → OpRel nm x y ∧ x.okC = true := by
  obtain ⟨h1, h2⟩ := mapM_inv _ h
  refine ⟨by rw [h1, List.length_zip]; omega, fun j x y hx hy => ?_⟩
  obtain ⟨p, g1, g2⟩ := h2 j x hx
  rw [List.getElem?_zip_eq_some] at g1
  have : p.1 = y := by rw [g1.1] at hy; simpa using hy
  rw [this] at g2
  exact compX_rel g2
theorem op_sound (hc : CallOk P nm G Cl) (R : Rel nm N S a w L) (hH : NoH L) (hG : GI G w L) (hd : ∀ d, o.dst = some d → d < N) {io : IOp} (hio : compOp P nm hh o = some io) (hr : (evOp Cl d io).run S = some r) :
    OpsTo P a w o (Aft nm N S w L a o.dst r.1 r.2) := by
  have bad : ∀ {io : IOp}, (none : Option IOp) = some io → False := fun h => by cases h
  unfold compOp at hio
  split at hio
  · rename_i x ho
    obtain ⟨X, h1, rfl⟩ := map_some' hio
    obtain ⟨g1, g2⟩ := compX_rel h1
    exact ev_mov R hH hd g1 g2 (.inl ho) hr
  · rename_i x ho
    obtain ⟨X, h1, rfl⟩ := map_some' hio
    obtain ⟨g1, g2⟩ := compX_rel h1
    exact ev_mov R hH hd g1 g2 (.inr ho) hr
  · rename_i c x y ho
    obtain ⟨C', h1, h2⟩ := bind_some hio
    obtain ⟨X, h3, h4⟩ := bind_some h2
    obtain ⟨Y, h5, h6⟩ := bind_some h4
    cases h6
    exact ev_pick R hd (lookX_rel h1).1 (lookX_rel h3).1 (lookX_rel h5).1 ho hr
  · rename_i e ho
    obtain ⟨zs, h1, h2⟩ := bind_some hio
    split at h2
    · split at h2
      · cases h2
        exact ev_allocB R hd ho h1 hr
      · cases h2
    · cases h2
      exact ev_alloc R hd ho h1 hr
  · rename_i e v ho
    obtain ⟨n, h1, h2⟩ := bind_some hio
    obtain ⟨X, h3, h4⟩ := bind_some h2
    split at h4
    · cases h4
    · rename_i hn
      obtain ⟨g1, g2⟩ := compX_rel h3
      split at h4
      · cases h4
        exact ev_boxB R hH hd g1 g2 ho hn hr
      · cases h4
        exact ev_box R hH hd g1 g2 ho hn hr
  · rename_i t parts ho
    obtain ⟨zs, h1, h2⟩ := bind_some hio
    split at h2
    · rename_i fs ht
      split at h2
      · rename_i hall
        obtain ⟨ps, h3, rfl⟩ := map_some' h2
        exact ev_build R hH hd ho h1 ht (fun f hf => by simpa using List.all_eq_true.1 hall f hf) (partsOk_of _ h3) hr
      · cases h2
    · cases h2
  · rename_i t len parts ho
    split at hio
    · rename_i e ht
      obtain ⟨zs, h1, h2⟩ := bind_some hio
      obtain ⟨row, h3, h4⟩ := bind_some h2
      split at h4
      · cases h4
      · rename_i hcond
        obtain ⟨ps, h5, rfl⟩ := map_some' h4
        exact ev_bslice R hH hd ho ht h1 h3 (fun h => hcond (.inl h)) (fun h => hcond (.inr (.inl h))) (elemsOk_of _ h5) (fun h => Classical.byContradiction fun h8 => hcond (.inr (.inr ⟨h, h8⟩))) hr
    · cases hio
  · rename_i t x ho
    obtain ⟨⟨n, agg⟩, h1, h2⟩ := bind_some hio
    obtain ⟨X, h3, h4⟩ := bind_some h2
    split at h4
    · cases h4
    · cases h4
      exact ev_load R hd (lookX_rel h3).1 ho h1 hr
  · rename_i t x v ho
    obtain ⟨n, h1, h2⟩ := bind_some hio
    obtain ⟨X, h3, h4⟩ := bind_some h2
    obtain ⟨V', h5, h6⟩ := bind_some h4
    split at h6
    · cases h6
    · rename_i hn
      cases h6
      obtain ⟨g1, g2⟩ := compX_rel h5
      exact ev_store R hH hd (lookX_rel h3).1 g1 g2 ho h1 hn hr
  · rename_i x ho
    obtain ⟨X, h1, rfl⟩ := map_some' hio
    exact ev_nilck R hd (lookX_rel h1).1 ho hr
  · rename_i op t x y yt ho
    obtain ⟨tc, h1, h2⟩ := bind_some hio
    obtain ⟨X, h3, h4⟩ := bind_some h2
    obtain ⟨Y, h5, h6⟩ := bind_some h4
    cases h6
    exact ev_bin R hd (lookX_rel h3).1 (lookX_rel h5).1 ho h1 hr
  · rename_i op t x ho
    obtain ⟨X, h1, rfl⟩ := map_some' hio
    exact ev_un R hd (lookX_rel h1).1 ho hr
  · rename_i s dt x ho
    obtain ⟨X, h1, h2⟩ := bind_some hio
    obtain ⟨g1, g2⟩ := lookX_rel h1
    split at h2
    · rename_i k k' hs hdt; cases h2; exact ev_convInt R hd g1 ho hs hdt hr
    · rename_i hs hdt; cases h2; exact ev_convSame R hd g1 ho hs hdt hr
    · rename_i e hs hdt
      split at h2
      · rename_i hu; cases h2; exact ev_strBytes R hH hd g1 ho hs hdt (isU8_inv hu.1) hu.2 hr
      · cases h2
    · rename_i e hs hdt
      split at h2
      · rename_i hu; cases h2; exact ev_convBytes R hd g1 g2 ho hs hdt (isU8_inv hu) hr
      · cases h2
    · cases h2
  · rename_i f x y ho
    obtain ⟨n, h1, h2⟩ := bind_some hio
    obtain ⟨xs, h3, h4⟩ := bind_some h2
    obtain ⟨ys, h5, h6⟩ := bind_some h4
    cases h6
    obtain ⟨g1, g2⟩ := mapM_inv _ h3
    obtain ⟨g3, g4⟩ := mapM_inv _ h5
    refine ev_mkfn R hH hd h1 g1 (fun j X z hX hz => ?_) g3 (fun j X z hX hz => ?_) ho hr
    · obtain ⟨z', k1, k2⟩ := g2 j X hX
      rw [hz] at k1; cases k1
      exact lookX_rel k2
    · obtain ⟨z', k1, k2⟩ := g4 j X hX
      rw [hz] at k1; cases k1
      exact lookX_rel k2
  · rename_i t l c ho
    split at hio
    · rename_i e ht
      obtain ⟨i, h1, h2⟩ := bind_some hio
      obtain ⟨zs, h3, h4⟩ := bind_some h2
      obtain ⟨row, h5, h6⟩ := bind_some h4
      obtain ⟨LX, h7, h8⟩ := bind_some h6
      obtain ⟨CX, h9, h10⟩ := bind_some h8
      split at h10
      · cases h10
      · rename_i hs
        cases h10
        exact ev_mkslice R hH hd (lookX_rel h7).1 (lookX_rel h9).1 ho ht h1 h3 h5 hs byU8_ok hr
    · cases hio
  · rename_i t x lo hi mx ho
    obtain ⟨X, h1, h2⟩ := bind_some hio
    obtain ⟨LO, h3, h4⟩ := bind_some h2
    obtain ⟨HI, h5, h6⟩ := bind_some h4
    obtain ⟨MX, h7, h8⟩ := bind_some h6
    obtain ⟨l1, l2⟩ := lookOpt h3
    obtain ⟨l3, l4⟩ := lookOpt h5
    obtain ⟨l5, l6⟩ := lookOpt h7
    split at h8
    · rename_i ht
      split at h8
      · cases h8
      · rename_i hm
        cases h8
        have hmn : mx = none := by
          cases mx with
          | none => rfl
          | some m => obtain ⟨y, hy, _⟩ := l5 m rfl; simp [hy] at hm
        subst hmn
        exact ev_sliceStr R hd (lookX_rel h1).1 ho ht l1 l2 l3 l4 hr
    · rename_i e ht
      obtain ⟨n, h9, h10⟩ := bind_some h8
      split at h10
      · cases h10
      · rename_i hcond
        cases h10
        refine ev_slice R hd (lookX_rel h1).1 ho ht h9 (fun h => hcond (.inl h)) l1 l2 l3 l4 l5 l6 (fun hm hh => ?_) hr
        apply hcond
        right
        cases mx with
        | none => exact absurd rfl hm
        | some m => obtain ⟨y, hy, _⟩ := l5 m rfl; exact ⟨by rw [hy]; rfl, by rw [l4 hh]; rfl⟩
    · cases h8
  · rename_i s x fi ho
    split at hio
    · rename_i fs hs
      obtain ⟨f, h1, h2⟩ := bind_some hio
      obtain ⟨n, h3, h4⟩ := bind_some h2
      obtain ⟨X, h5, h6⟩ := bind_some h4
      split at h6
      · cases h6
      · rename_i hn
        cases h6
        exact ev_fieldA R hd (lookX_rel h5).1 ho hs h1 h3 hn hr
    · cases hio
  · rename_i t x fi ho
    split at hio
    · rename_i fs hs
      obtain ⟨f, h1, h2⟩ := bind_some hio
      obtain ⟨⟨n, agg⟩, h3, h4⟩ := bind_some h2
      obtain ⟨X, h5, h6⟩ := bind_some h4
      cases h6
      obtain ⟨g1, g2⟩ := lookX_rel h5
      exact ev_field R hd g1 g2 ho hs h1 h3 hr
    · cases hio
  · rename_i t x i ho
    split at hio
    · rename_i e ht
      obtain ⟨n, h1, h2⟩ := bind_some hio
      obtain ⟨X, h3, h4⟩ := bind_some h2
      obtain ⟨I, h5, h6⟩ := bind_some h4
      split at h6
      · cases h6
      · cases h6
        exact ev_indexA R hd (lookX_rel h3).1 (lookX_rel h5).1 ho ht h1 hr
    · rename_i k e ht
      obtain ⟨n, h1, h2⟩ := bind_some hio
      obtain ⟨X, h3, h4⟩ := bind_some h2
      obtain ⟨I, h5, h6⟩ := bind_some h4
      split at h6
      · cases h6
      · cases h6
        exact ev_indexR R hd (lookX_rel h3).1 (lookX_rel h5).1 ho ht h1 hr
    · cases hio
  · rename_i t x i ho
    split at hio
    · rename_i ht
      obtain ⟨X, h3, h4⟩ := bind_some hio
      obtain ⟨I, h5, h6⟩ := bind_some h4
      cases h6
      exact ev_index R hd (lookX_rel h3).1 (lookX_rel h5).1 ho ht hr
    · cases hio
  · rename_i x j ho
    obtain ⟨X, h1, rfl⟩ := map_some' hio
    exact ev_extract R hd (lookX_rel h1).1 ho hr
  · rename_i t x ho
    split at hio
    · cases hio
    · rename_i dd hnd ht
      obtain ⟨X, h1, rfl⟩ := map_some' hio
      exact ev_mkif R hd ho ht (fun m e => hnd m e) hr
    · cases hio
  · rename_i t r ho
    split at hio
    · rename_i k e ht
      split at hio
      · rename_i hc
        cases hio
        cases r with
        | none => exact ev_mkmap R hd ho hr
        | some x => cases hc.2.2.1
      · cases hio
    · cases hio
  · rename_i t m k ok ho
    split at hio
    · rename_i kt e ht
      obtain ⟨M, h1, h2⟩ := bind_some hio
      obtain ⟨K, h3, h4⟩ := bind_some h2
      split at h4
      · rename_i hc
        cases h4
        obtain ⟨c1, c2, c3, rfl⟩ := hc
        exact ev_mget R hd (lookX_rel h1).1 (lookX_rel h3).1 ho ht (isStrD_inv c1) c3 hr
      · cases h4
    · cases hio
  · rename_i t m k x ho
    split at hio
    · rename_i kt e ht
      obtain ⟨M, h1, h2⟩ := bind_some hio
      obtain ⟨K, h3, h4⟩ := bind_some h2
      obtain ⟨Z, h5, h6⟩ := bind_some h4
      split at h6
      · rename_i hc
        cases h6
        exact ev_mset R hd (lookX_rel h1).1 (lookX_rel h3).1 (lookX_rel h5).1 ho ht (isStrD_inv hc.1) hr
      · cases h6
    · cases hio
  · rename_i c ho
    unfold compCall at hio
    split at hio
    · rename_i f hf
      obtain ⟨F, h1, h2⟩ := bind_some hio
      split at h2
      · rename_i hsz
        obtain ⟨xs, h3, h4⟩ := bind_some h2
        cases h4
        obtain ⟨g1, g2⟩ := lookX_rel h1
        obtain ⟨g3, g4⟩ := zip_mapM h3 (by simpa using hsz)
        refine hc R hH hG hd ho hf g1 g2 (by simpa using g3) (fun j x y hx hy => ?_) hr
        rw [List.getElem?_map] at hx
        cases hz : (xs.zipIdx)[j]? with
        | none => simp [hz] at hx
        | some p =>
          simp only [hz, Option.map_some, Option.some.injEq] at hx
          subst hx
          rw [List.getElem?_zipIdx] at hz
          cases hxj : xs[j]? with
          | none => simp [hxj] at hz
          | some X =>
            simp only [hxj, Option.map_some, Option.some.injEq] at hz
            subst hz
            exact g4 j X y hxj hy
      · cases h2
    · rename_i hb
      split at hio
      · rename_i x t hx ht
        have hcc : c = ⟨.builtin .len, #[x], #[t]⟩ := by obtain ⟨cl, ca, ct⟩ := c; simp only at hb hx ht; subst hb; congr <;> (apply Array.ext'; simpa using by assumption)
        subst hcc
        split at hio
        · rename_i hu
          obtain ⟨X, h1, rfl⟩ := map_some' hio
          exact ev_len R hd (lookX_rel h1).1 ho (by simpa using hu) hr
        · rename_i e hu
          obtain ⟨X, h1, rfl⟩ := map_some' hio
          exact ev_len R hd (lookX_rel h1).1 ho (by simpa using ⟨e, hu⟩) hr
        · cases hio
      · cases hio
    · rename_i hb
      split at hio
      · rename_i x y t u hx ht
        have hcc : c = ⟨.builtin .append, #[x, y], #[t, u]⟩ := by obtain ⟨cl, ca, ct⟩ := c; simp only at hb hx ht; subst hb; congr <;> (apply Array.ext'; simpa using by assumption)
        subst hcc
        split at hio
        · rename_i e hte
          obtain ⟨i, h1, h2⟩ := bind_some hio
          obtain ⟨zs, h3, h4⟩ := bind_some h2
          obtain ⟨X, h5, h6⟩ := bind_some h4
          obtain ⟨g1, g2⟩ := compX_rel h5
          split at h6
          · rename_i e' hue
            obtain ⟨Y, h7, h8⟩ := bind_some h6
            split at h8
            · cases h8
            · rename_i hcond
              cases h8
              obtain ⟨g3, g4⟩ := compX_rel h7
              obtain ⟨z, T⟩ := appT_of hte hue (by simp) h1 h3 (fun h => hcond (.inl h)) (fun h => hcond (.inr h))
              exact ev_app R hH hd g1 g2 g3 g4 ho T hr
          · rename_i hue
            obtain ⟨Y, h7, h8⟩ := bind_some h6
            split at h8
            · rename_i hcond
              cases h8
              obtain ⟨z, T⟩ := appT_of hte hue (by simp) h1 h3 (by omega) (by omega)
              have hb1 : byU8 e i.bytes = 1 := by rw [hcond.2.2.2, hcond.2.1]; rfl
              rw [hcond.1, hb1] at T
              exact ev_appS R hH hd g1 g2 (lookX_rel h7).1 ho T hr
            · cases h8
          · cases h6
        · cases hio
      · cases hio
    · rename_i hb
      split at hio
      · rename_i x t hx ht
        have hcc : c = ⟨.builtin .unsafeSliceData, #[x], #[t]⟩ := by obtain ⟨cl, ca, ct⟩ := c; simp only at hb hx ht; subst hb; congr <;> (apply Array.ext'; simpa using by assumption)
        subst hcc
        obtain ⟨X, h1, rfl⟩ := map_some' hio
        exact ev_sdata R hd (lookX_rel h1).1 ho hr
      · cases hio
    · rename_i hb
      split at hio
      · rename_i x y t u hx ht
        have hcc : c = ⟨.builtin .unsafeString, #[x, y], #[t, u]⟩ := by obtain ⟨cl, ca, ct⟩ := c; simp only at hb hx ht; subst hb; congr <;> (apply Array.ext'; simpa using by assumption)
        subst hcc
        split at hio
        · rename_i e he
          split at hio
          · rename_i hcond
            obtain ⟨X, h3, h4⟩ := bind_some hio
            obtain ⟨Y, h5, h6⟩ := bind_some h4
            cases h6
            obtain ⟨h7, h8⟩ := hcond
            have h9 : e = 5 := h7
            subst h9
            exact ev_ustr R hd (lookX_rel h3).1 (lookX_rel h5).1 ho he h8 hr
          · cases hio
        · cases hio
      · cases hio
    · rename_i hb
      split at hio
      · rename_i x y t u hx ht
        have hcc : c = ⟨.builtin .min, #[x, y], #[t, u]⟩ := by obtain ⟨cl, ca, ct⟩ := c; simp only at hb hx ht; subst hb; congr <;> (apply Array.ext'; simpa using by assumption)
        subst hcc
        obtain ⟨X, h3, h4⟩ := bind_some hio
        obtain ⟨Y, h5, h6⟩ := bind_some h4
        cases h6
        exact ev_min R hd (lookX_rel h3).1 (lookX_rel h5).1 ho hr
      · cases hio
    · rename_i hb
      split at hio
      · rename_i x y t u hx ht
        have hcc : c = ⟨.builtin .max, #[x, y], #[t, u]⟩ := by obtain ⟨cl, ca, ct⟩ := c; simp only at hb hx ht; subst hb; congr <;> (apply Array.ext'; simpa using by assumption)
        subst hcc
        obtain ⟨X, h3, h4⟩ := bind_some hio
        obtain ⟨Y, h5, h6⟩ := bind_some h4
        cases h6
        exact ev_max R hd (lookX_rel h3).1 (lookX_rel h5).1 ho hr
      · cases hio
    · cases hio
  · cases hio
end
end
section
def St.same (S S' : St) : Prop := ∀ k, S.get k = S'.get k
theorem St.same.refl (S : St) : S.same S := fun _ => rfl
theorem St.same.symm {S S' : St} (h : S.same S') : S'.same S := fun k => (h k).symm
theorem St.same.trans {S S' S'' : St} (h : S.same S') (k : S'.same S'') : S.same S'' := fun x => (h x).trans (k x)
theorem St.same.wr {S S' : St} (h : S.same S') (x : Wr) : (S.wr x).same (S'.wr x) := by
  intro k
  rw [St.get_wr, St.get_wr, h x.k, h k]
theorem St.same.wrs {S S' : St} (h : S.same S') : ∀ ws : List Wr, (S.wrs ws).same (S'.wrs ws)
  | [] => h
  | x :: t => (St.same.wrs h t).wr x
theorem Q.run_same {α : Type} {S S' : St} (h : S.same S') (x : Q α) : x.run S' = x.run S ∧ x.reads S' = x.reads S := Q.run_congr x (fun k _ => (h k).symm)
theorem wrs_get_ne (S : St) : ∀ (ws : List Wr) (k : Key), (∀ x ∈ ws, x.k ≠ k) → (S.wrs ws).get k = S.get k
  | [], _, _ => rfl
  | x :: t, k, h => by
    simp only [St.wrs, St.get_wr]
    rw [if_neg (h x (by simp))]
    exact wrs_get_ne S t k (fun y hy => h y (by simp [hy]))
theorem wrs_get_congr (ws : List Wr) {S S' : St} {k : Key} (h : S.get k = S'.get k) : (S.wrs ws).get k = (S'.wrs ws).get k := by
  induction ws with
  | nil => exact h
  | cons x t ih =>
    simp only [St.wrs, St.get_wr]
    by_cases hk : x.k = k
    · subst hk; rw [if_pos rfl, if_pos rfl, ih]
    · rw [if_neg hk, if_neg hk]; exact ih
theorem wrs_comm (S : St) (u v : List Wr) (h : ∀ x ∈ u, ∀ y ∈ v, x.k ≠ y.k) : ((S.wrs u).wrs v).same ((S.wrs v).wrs u) := by
  intro k
  by_cases hu : ∃ x ∈ u, x.k = k
  · obtain ⟨x, hx, rfl⟩ := hu
    rw [wrs_get_ne _ v x.k (fun y hy e => h x hx y hy e.symm)]
    exact wrs_get_congr u (wrs_get_ne S v x.k (fun y hy e => h x hx y hy e.symm)).symm
  · have hu' : ∀ x ∈ u, x.k ≠ k := fun x hx e => hu ⟨x, hx, e⟩
    rw [wrs_get_ne (S.wrs v) u k hu']
    exact wrs_get_congr v (wrs_get_ne S u k hu')
theorem Foot.apart_inv {x y : Foot} (h : x.apart y = true) : (∀ k ∈ x.w, k ∉ y.r ∧ k ∉ y.w) ∧ ∀ k ∈ y.w, k ∉ x.r := by
  unfold Foot.apart at h
  simp only [Bool.and_eq_true, List.all_eq_true, Bool.not_eq_true', List.contains_eq_mem, decide_eq_false_iff_not] at h
  exact h
theorem evOpsF_same (Cl : Oracle) : ∀ (l : List IOper) {S S' Sf : St} {F : List Foot}, S.same S' → evOpsF Cl l S = some (Sf, F) → ∃ Sf', evOpsF Cl l S' = some (Sf', F) ∧ Sf.same Sf'
  | [], S, S', Sf, F, h, he => by
    simp only [evOpsF, Option.some.injEq, Prod.mk.injEq] at he
    obtain ⟨rfl, rfl⟩ := he
    exact ⟨S', rfl, h⟩
  | o :: t, S, S', Sf, F, h, he => by
    simp only [evOpsF] at he ⊢
    obtain ⟨h1, h2⟩ := Q.run_same h (evOper Cl o)
    rw [h1, h2]
    cases hw : (evOper Cl o).run S with
    | none => simp [hw] at he
    | some ws =>
      simp only [hw, Option.bind_some] at he ⊢
      obtain ⟨⟨S1, F1⟩, h3, h4⟩ := map_some' he
      simp only [Prod.mk.injEq] at h4
      obtain ⟨rfl, rfl⟩ := h4
      obtain ⟨S2, h5, h6⟩ := evOpsF_same Cl t (h.wrs ws) h3
      exact ⟨S2, by rw [h5]; rfl, h6⟩
theorem bring_front (Cl : Oracle) (o : IOper) (f : Foot) (l2 : List IOper) (F2 : List Foot) : ∀ (l1 : List IOper) {S Sf : St} {F1 : List Foot}, F1.length = l1.length → evOpsF Cl (l1 ++ o :: l2) S = some (Sf, F1 ++ f :: F2) → (∀ g ∈ F1, g.apart f = true) →
    ∃ ws, (evOper Cl o).run S = some ws ∧ f = ⟨(evOper Cl o).reads S, ws.map (·.k)⟩ ∧ ∃ Sf', evOpsF Cl (l1 ++ l2) (S.wrs ws) = some (Sf', F1 ++ F2) ∧ Sf.same Sf'
  | [], S, Sf, F1, hl, he, ha => by
    have : F1 = [] := List.length_eq_zero_iff.1 hl
    subst this
    simp only [List.nil_append, evOpsF] at he ⊢
    cases hw : (evOper Cl o).run S with
    | none => simp [hw] at he
    | some ws =>
      simp only [hw, Option.bind_some] at he
      obtain ⟨⟨S1, F1⟩, h3, h4⟩ := map_some' he
      simp only [Prod.mk.injEq, List.cons.injEq] at h4
      obtain ⟨rfl, rfl, rfl⟩ := h4
      exact ⟨ws, rfl, rfl, Sf, h3, St.same.refl _⟩
  | x :: t, S, Sf, F1, hl, he, ha => by
    cases F1 with
    | nil => simp at hl
    | cons g F1 =>
      simp only [List.cons_append, evOpsF] at he
      cases hw : (evOper Cl x).run S with
      | none => simp [hw] at he
      | some wx =>
        simp only [hw, Option.bind_some] at he
        obtain ⟨⟨S1, F'⟩, h3, h4⟩ := map_some' he
        simp only [Prod.mk.injEq, List.cons.injEq] at h4
        obtain ⟨rfl, rfl, rfl⟩ := h4
        obtain ⟨ws, h5, h6, Sf', h7, h8⟩ := bring_front Cl o f l2 F2 t (by simpa using hl) h3 (fun g hg => ha g (by simp [hg]))
        obtain ⟨a1, a2⟩ := Foot.apart_inv (ha ⟨(evOper Cl x).reads S, wx.map (·.k)⟩ (by simp))
        have hro : (evOper Cl o).run S = some ws ∧ (evOper Cl o).reads S = (evOper Cl o).reads (S.wrs wx) := by
          have := Q.run_congr (S := S.wrs wx) (S' := S) (evOper Cl o) (fun k hk => by
            refine (wrs_get_ne S wx k ?_).symm
            rintro y hy rfl
            have := (a1 y.k (List.mem_map.2 ⟨y, hy, rfl⟩)).1
            rw [h6] at this
            exact this hk)
          exact ⟨this.1.trans h5, this.2⟩
        have hrx : (evOper Cl x).run (S.wrs ws) = some wx ∧ (evOper Cl x).reads (S.wrs ws) = (evOper Cl x).reads S := by
          have := Q.run_congr (S := S) (S' := S.wrs ws) (evOper Cl x) (fun k hk => by
            refine wrs_get_ne S ws k ?_
            rintro y hy rfl
            exact a2 y.k (by rw [h6]; exact List.mem_map.2 ⟨y, hy, rfl⟩) hk)
          exact ⟨this.1.trans hw, this.2⟩
        have hdis : ∀ y ∈ wx, ∀ z ∈ ws, y.k ≠ z.k := by
          intro y hy z hz e
          have := (a1 y.k (List.mem_map.2 ⟨y, hy, rfl⟩)).2
          rw [h6, e] at this
          exact this (List.mem_map.2 ⟨z, hz, rfl⟩)
        obtain ⟨Sf'', h9, h10⟩ := evOpsF_same Cl (t ++ l2) (wrs_comm S wx ws hdis) h7
        refine ⟨ws, hro.1, by rw [h6, hro.2], Sf'', ?_, h8.trans h10⟩
        simp only [List.cons_append, evOpsF, hrx.1, hrx.2, Option.bind_some, h9, Option.map_some]
theorem before_bits (ops : Array Oper) : (Region.before ops).size = ops.size ∧ ∀ i j, ((Region.before ops).getD i 0).testBit j = true → ∃ o e, ops[i]? = some o ∧ e ∈ o.after ∧ Region.binds .any e = true ∧ (e.on = j ∨ (e.on < i ∧ ((Region.before ops).getD e.on 0).testBit j = true)) := by
  have inner : ∀ (acc : Array Nat) (l : List Edge) (s j : Nat), (l.foldl (fun s e => if Region.binds .any e then s ||| 2 ^ e.on ||| acc.getD e.on 0 else s) s).testBit j = true →
      s.testBit j = true ∨ ∃ e ∈ l, Region.binds .any e = true ∧ (e.on = j ∨ (acc.getD e.on 0).testBit j = true) := by
    intro acc l
    induction l with
    | nil => intro s j h; exact .inl h
    | cons e l ih =>
      intro s j h
      simp only [List.foldl_cons] at h
      rcases ih _ _ h with h | ⟨e', h1, h2, h3⟩
      · split at h
        · rename_i hb
          rw [Nat.testBit_or, Nat.testBit_or, Bool.or_eq_true, Bool.or_eq_true] at h
          rcases h with (h | h) | h
          · exact .inl h
          · rw [Nat.testBit_two_pow] at h
            exact .inr ⟨e, by simp, hb, .inl (by simpa using h)⟩
          · exact .inr ⟨e, by simp, hb, .inr h⟩
        · exact .inl h
      · exact .inr ⟨e', by simp [h1], h2, h3⟩
  have main : ∀ (n : Nat), n ≤ ops.size → ∀ (acc : Array Nat), acc = (ops.toList.take n).foldl (fun acc o => acc.push (o.after.foldl (fun s e => if Region.binds .any e then s ||| 2 ^ e.on ||| acc.getD e.on 0 else s) 0)) #[] →
      acc.size = n ∧ ∀ i j, (acc.getD i 0).testBit j = true → ∃ o e, ops[i]? = some o ∧ e ∈ o.after ∧ Region.binds .any e = true ∧ (e.on = j ∨ (e.on < i ∧ (acc.getD e.on 0).testBit j = true)) := by
    intro n
    induction n with
    | zero =>
      intro _ acc h
      subst h
      exact ⟨rfl, fun i j h => by simp at h⟩
    | succ n ih =>
      intro hn acc h
      rw [List.take_succ_eq_append_getElem (by rw [Array.length_toList]; omega), List.foldl_append] at h
      obtain ⟨acc0, hacc0⟩ : ∃ x, x = (ops.toList.take n).foldl (fun acc o => acc.push (o.after.foldl (fun s e => if Region.binds .any e then s ||| 2 ^ e.on ||| acc.getD e.on 0 else s) 0)) #[] := ⟨_, rfl⟩
      obtain ⟨g1, g2⟩ := ih (by omega) acc0 hacc0
      rw [← hacc0] at h
      clear hacc0 ih
      simp only [List.foldl_cons, List.foldl_nil] at h
      have hpre : ∀ k, k < n → acc.getD k 0 = acc0.getD k 0 := by
        intro k hk
        subst h
        simp only [Array.getD_eq_getD_getElem?]
        rw [Array.getElem?_push, if_neg (by omega)]
      refine ⟨by rw [h]; simp [g1], fun i j hb => ?_⟩
      by_cases hi : i < n
      · rw [hpre i hi] at hb
        obtain ⟨o, e, k1, k2, k3, k4⟩ := g2 i j hb
        refine ⟨o, e, k1, k2, k3, k4.imp id (fun ⟨k5, k6⟩ => ⟨k5, by rw [hpre _ (by omega)]; exact k6⟩)⟩
      · by_cases hin : i = n
        · subst hin
          have hv : acc.getD i 0 = (ops[i]'(by omega)).after.foldl (fun s e => if Region.binds .any e then s ||| 2 ^ e.on ||| acc0.getD e.on 0 else s) 0 := by
            rw [h]
            simp only [Array.getD_eq_getD_getElem?]
            rw [Array.getElem?_push, if_pos (by omega)]
            simp
          rw [hv, ← Array.foldl_toList] at hb
          rcases inner acc0 _ 0 j hb with h0 | ⟨e, k1, k2, k3⟩
          · simp at h0
          · refine ⟨ops[i], e, by simp, by simpa using k1, k2, ?_⟩
            rcases k3 with k3 | k3
            · exact .inl k3
            · have hon : e.on < i := by
                rcases Nat.lt_or_ge e.on i with h | h
                · exact h
                · rw [Array.getD_eq_getD_getElem?, Array.getElem?_eq_none (by omega)] at k3
                  simp at k3
              exact .inr ⟨hon, by rw [hpre _ hon]; exact k3⟩
        · rw [Array.getD_eq_getD_getElem?, Array.getElem?_eq_none (by rw [h]; simp [g1]; omega)] at hb
          simp at hb
  have := main ops.size (Nat.le_refl _) (Region.before ops) (by
    unfold Region.before
    rw [List.take_of_length_le (by rw [Array.length_toList]; exact Nat.le_refl _), Array.foldl_toList])
  exact this
def Closed (ops : Array Oper) (listed : Array Bool) : Prop := ∀ (i : Nat) o, ops[i]? = some o → listed.getD i true = true → ∀ e ∈ o.after, Region.binds .any e = true → listed.getD e.on false = true
theorem before_listed (ops : Array Oper) (listed : Array Bool) (hs : listed.size = ops.size) (hc : Closed ops listed) : ∀ (n i : Nat), i < n → ∀ o, ops[i]? = some o → (∀ e ∈ o.after, Region.binds .any e = true → listed.getD e.on false = true) →
    ∀ j, ((Region.before ops).getD i 0).testBit j = true → listed.getD j false = true
  | 0, i, hi, _, _, _, _, _ => by omega
  | n + 1, i, hi, o, ho, hr, j, hb => by
    obtain ⟨o', e, h1, h2, h3, h4⟩ := (before_bits ops).2 i j hb
    rw [ho] at h1
    cases h1
    have hl := hr e h2 h3
    rcases h4 with rfl | ⟨h4, h5⟩
    · exact hl
    · have hlt : e.on < ops.size := by
        rcases Nat.lt_or_ge e.on ops.size with h | h
        · exact h
        · rw [Array.getD_eq_getD_getElem?, Array.getElem?_eq_none (by omega)] at hl
          cases hl
      refine before_listed ops listed hs hc n e.on (by omega) ops[e.on] (by simp [hlt]) (hc e.on _ (by simp [hlt]) ?_) j h5
      rw [Array.getD_eq_getD_getElem?] at hl ⊢
      cases hx : listed[e.on]? with
      | none => rfl
      | some b => simpa [hx] using hl
end
end Go.Abs
