/- Operations that make and lengthen slices. -/
import Derived.Test.YtjndnconlakjkaaAbsOps8
set_option linter.unusedVariables false
set_option linter.unusedSimpArgs false
namespace Go.Abs
section
variable {nm : FuncId → Option Nat} {N : Nat} {S S0 : St} {a : Act} {w w0 : World} {L L0 : LabF} {P : Program} {o : Oper} {Cl : Oracle} {d : Nat} {r : V × List Wr} {ws : List Wr}

theorem NoH.free (h : NoH L) (m : Nat) : FreeH L m := fun B q o hB e => by have := h B q o hB; rw [e] at this; simp [Key.isPl] at this

theorem ev_mkslice (R : Rel nm N S a w L) (hH : NoH L) (hd : ∀ d, o.dst = some d → d < N) {t e : TypeId} {l c : Operand} {LX CX : Abs.X} {i : TypeInfo} {zs : List C} {row : List D} (hl : OpRel nm LX l) (hc : OpRel nm CX c) (ho : o.op = .makeSlice t l c) (ht : P.underlying t = some (.slice e)) (hi : P.info? e = some i) (hz : zeroC P e = some zs) (hdz : dataL zs = some row)
    (hs0 : i.size ≠ 0) (hr : (evOp Cl d (.mkslice i.size i.bytes row LX CX)).run S = some r) : OpsTo P a w o (Aft nm N S w L a o.dst r.1 r.2) := by
  simp only [evOp] at hr
  obtain ⟨vl, h1, h2⟩ := Q.run_bind_some hr
  clear hr
  obtain ⟨vc, h3, h4⟩ := Q.run_bind_some h2
  clear h2
  obtain ⟨n, h5, h6⟩ := Q.run_ofO_some h4
  clear h4
  obtain ⟨m, h7, h8⟩ := Q.run_ofO_some h6
  clear h6
  obtain ⟨hg, h9⟩ := Q.run_guard_some h8
  clear h8
  obtain rfl := Q.run_pure_some h9
  simp only [Bool.and_eq_true, decide_eq_true_eq, beq_iff_eq] at hg
  obtain ⟨⟨⟨hnm, hb⟩, h63⟩, _⟩ := hg
  obtain ⟨kl, hl'⟩ := asNat_inv (rd_val R hl h1) h5
  obtain ⟨kc, hc'⟩ := asNat_inv (rd_val R hc h3) h7
  obtain ⟨i', z, k1, k2, k3, k4, k5⟩ := zeroC_inv hz
  obtain rfl : i' = i := by rw [hi] at k1; simpa using k1.symm
  have hsz : i'.size = zs.length := by omega
  obtain ⟨z1, z2⟩ := zero_rows (n := n) (m := m) hdz k3 k5 hnm (by omega)
  rw [← hsz] at z1 z2
  obtain ⟨val, hv, hcont⟩ := fin_row (w := w) (L := L) (rows := List.replicate n row) (sz := i'.size) (vs := madeCells z.cells (m * i'.size)) (fun i c x hx => by
    obtain ⟨u, h3, h4⟩ := z2 i c x hx
    exact ⟨u, h3, .plain (h4.plain w L)⟩)
  obtain ⟨hR, hM, hrep⟩ := R.newRowW (m := 0) (j := 0) (w' := w.alloc (.cells (madeCells z.cells (m * i'.size)) e)) (cap := m) (fun B o hB => hH.free 0 B _ o hB rfl) (heap_alloc_self w _) (fun B hB => heap_alloc_lt w _ hB) (fun j _ => by simp) ⟨rfl, rfl, rfl, by simp⟩ (Nat.pos_of_ne_zero hs0) z1
    (by simpa using hnm) (by rw [size_madeCells]; exact Nat.le_refl _) hv hcont
  simp only [List.length_replicate] at hrep
  refine .val (v := .slice (some ⟨w.heap.size, 0, none⟩) n m) (w' := w.alloc (.cells (madeCells z.cells (m * i'.size)) e)) ?_ (Rel.aft (ws := []) hR hM hd (m := 0) (.one hrep))
  have : (Instr.makeSlice t (a.eval l) (a.eval c)).run P w = .ok (.slice (some ⟨w.heap.size, 0, none⟩) n m) (w.alloc (.cells (madeCells z.cells (m * i'.size)) e)) := by
    rw [hl', hc']
    have hbb : (i'.bytes : Int) * (m : Int) ≤ 281474976710656 := by
      have h1 : i'.bytes * m ≤ 281474976710656 := by rw [Nat.mul_comm]; omega
      have h2 : ((i'.bytes * m : Nat) : Int) ≤ 281474976710656 := by omega
      rwa [Int.natCast_mul] at h2
    exact run_make w t e i' z ht hi k2 kl kc n m (by omega) (by omega) hbb (by omega)
  simp [execOp, ho, this]

theorem strB_cell {s : List UInt8} {i c : Nat} {x : D} (h : cellOf (D.strB s) i c = some x) : ∃ b, s[i]? = some b ∧ c = 0 ∧ x = .int .u8 b.toNat := by
  obtain ⟨r, h1, h2⟩ := cellOf_some.1 h
  simp only [D.strB, List.getElem?_map] at h1
  cases hb : s[i]? with
  | none => simp [hb] at h1
  | some b =>
    simp only [hb, Option.map_some, Option.some.injEq] at h1
    subst h1
    cases c with
    | zero => simp at h2; exact ⟨b, rfl, rfl, h2.symm⟩
    | succ c => simp at h2
theorem strB_len (s : List UInt8) : (D.strB s).length = s.length := by simp [D.strB]
theorem strB_lens (s : List UInt8) : ∀ r ∈ D.strB s, r.length = 1 := by
  intro r hr
  simp only [D.strB, List.mem_map] at hr
  obtain ⟨b, _, rfl⟩ := hr
  rfl

def strCells (s : List UInt8) : Array Value := (s.map fun b => Value.int .u8 b.toNat).toArray

theorem ev_strBytes (R : Rel nm N S a w L) (hH : NoH L) (hd : ∀ d, o.dst = some d → d < N) {t u e : TypeId} {x : Operand} {X : Abs.X} (hx : OpRel nm X x) (ho : o.op = .convert t u x) (ht : P.underlying t = some .string) (hu : P.underlying u = some (.slice e)) (he : P.underlying e = some (.int .u8))
    (hr : (evOp Cl d (.conv .strBytes X)).run S = some r) : OpsTo P a w o (Aft nm N S w L a o.dst r.1 r.2) := by
  simp only [evOp] at hr
  obtain ⟨v1, h1, h2⟩ := Q.run_bind_some hr
  clear hr
  have r1 := rd_val R hx h1
  cases v1 with
  | one c =>
    cases c with
    | d z =>
      cases z with
      | str s =>
        obtain ⟨hg, h3⟩ := Q.run_guard_some (b := decide (s.length ≤ 140737488355328)) (f := fun _ => (pure (V.one (C.d (D.sl Tag.own 1 (D.strB s))), []) : Q (V × List Wr))) h2
        obtain rfl := Q.run_pure_some h3
        simp only [decide_eq_true_eq] at hg
        have e1 := r1.one_inv.str_inv
        let cap := grownCap w s.length 0 e
        have hcap : s.length ≤ cap := grownCap_ge w s.length 0 e
        let cur : Array Value := strCells s ++ Array.replicate (cap - s.length) (.int .u8 0)
        have hcs : cur.size = cap := by simp [cur, strCells]; omega
        let w' := (w.drew.alloc (.cells cur e)).freeze ⟨w.heap.size, cur.size, none⟩ 1
        have hself : w'.heap[w.heap.size]? = some (.cells cur e (cur.size, cur.size + 1)) := by
          have h0 := heap_alloc_self w.drew (.cells cur e)
          simp only [World.size_drew] at h0
          simp only [w', World.freeze, Nat.one_ne_zero, if_false, Array.getElem?_modify, h0]
          simp
        have hoth : ∀ B, B ≠ w.heap.size → w'.heap[B]? = w.heap[B]? := by
          intro B hB
          have h0 := heap_alloc_lt w.drew (.cells cur e) (B := B) hB
          simp only [w', World.freeze, Nat.one_ne_zero, if_false, Array.getElem?_modify]
          rw [if_neg (fun e => hB e.symm)]
          exact h0
        have hcell : ∀ (i : Nat) b, s[i]? = some b → cur[i]? = some (Value.int .u8 b.toNat) := by
          intro i b hb
          have hi := (List.getElem?_eq_some_iff.1 hb).1
          simp only [cur]
          rw [Array.getElem?_append_left (by simp [strCells]; exact hi)]
          simp [strCells, hb]
        obtain ⟨hR, hM, hrep⟩ := R.newRowW (m := 0) (j := 0) (w' := w') (cap := cap) (rows := D.strB s) (sz := 1) (val := fun i _ => Value.int .u8 (((s.getD i 0).toNat : Nat) : Int)) (fun B o hB => hH.free 0 B _ o hB rfl) hself hoth (fun j hj h => by simp at h; omega)
          ⟨rfl, rfl, rfl, by simp [w', World.freeze]⟩ (by omega) (strB_lens s) (by rw [strB_len]; exact hcap) (by omega) (fun i c x hx => by
            obtain ⟨b, g1, rfl, rfl⟩ := strB_cell hx
            rw [Nat.zero_add, Nat.mul_one, Nat.add_zero, hcell i b g1]
            simp [List.getD_eq_getElem?_getD, g1]) (fun i c x hx => by
            obtain ⟨b, g1, rfl, rfl⟩ := strB_cell hx
            simp only [List.getD_eq_getElem?_getD, g1, Option.getD_some]
            exact .plain .int)
        rw [strB_len] at hrep
        refine .val (v := .slice (some ⟨w.heap.size, 0, none⟩) s.length cap) (w' := w') ?_ (Rel.aft (ws := []) hR hM hd (m := 0) (.one hrep))
        have : (convert t u (a.eval x)).run P w = .ok (.slice (some ⟨w.heap.size, 0, none⟩) s.length cap) w' := by
          rw [e1]
          have hsh : (w.drew.alloc (.cells cur e)).shape? w.heap.size = some (e, cur.size) := by
            have h0 := heap_alloc_self w.drew (.cells cur e)
            simp only [World.size_drew] at h0
            unfold World.shape?
            rw [h0]
          have hel : (⟨s.toArray⟩ : ByteArray).data.map (fun b => Value.int .u8 b.toNat) = strCells s := by
            apply Array.ext'; simp [strCells]
          simp only [convert, Sem.run_bind, run_underlying ht, run_underlying hu, Result.andThen_ok, run_underlying he, Conv.stringToBytes, run_choose, Question.forced, bytes_size, hel, newRow, run_newObj, Sem.run_pure, markStringish, run_shape, run_freeze]
          simp only [Bool.false_eq_true, if_false, Result.andThen_ok, World.drew_eq, World.alloc_eq, World.size_drew]
          rw [show (Question.cut (.appendCap s.length 0 e) (w.tape w.drawn (.appendCap s.length 0 e))) = cap from rfl]
          rw [show strCells s ++ Array.replicate (cap - s.length) (Value.int .u8 0) = cur from rfl, hsh]
          rfl
        simp [execOp, ho, this]
      | _ => cases h2
    | _ => cases h2
  | _ => cases h2

/-- The rows of a slice, as append reads them. -/
theorem rows_src {γ : Key → Nat} {m : Nat} {tg : Tag} {sz sz' : Nat} {rows : List (List D)} {v : Value} (h : RepC nm w L γ (.h m) 0 (.d (.sl tg sz' rows)) v) (hs : sz' = sz ∨ rows = []) :
    ∃ news val2, Src P sz w v rows.length news ∧ (∀ r ∈ rows, r.length = sz) ∧ Cont w L ⟨.h m, 0, []⟩ rows val2 ∧ Lies rows sz 0 news val2 := by
  have empty : rows = [] → (∃ b cap, v = .slice b 0 cap) → ∃ news val2, Src P sz w v rows.length news ∧ (∀ r ∈ rows, r.length = sz) ∧ Cont w L ⟨.h m, 0, []⟩ rows val2 ∧ Lies rows sz 0 news val2 := by
    rintro rfl ⟨b, cap, rfl⟩
    refine ⟨#[], fun _ _ => undef, ⟨fun w' => by simp [Builtin.lenOf], fun w' _ => ?_, by simp, by simp⟩, by simp, fun i c x hx => by simp [cellOf] at hx, fun i c x hx => by simp [cellOf] at hx⟩
    cases b <;> simp [Builtin.firstCells, loadCells, loadCellsFrom]
  have full : ∀ (B o cap : Nat) (cur : Array Value) (e : TypeId) (fz : Nat × Nat) (val : Nat → Nat → Value), v = .slice (some ⟨B, o, none⟩) rows.length cap → sz' = sz → w.heap[B]? = some (.cells cur e fz) → (∀ r ∈ rows, r.length = sz') →
      (∀ i c x, cellOf rows i c = some x → cur[o + i * sz' + c]? = some (val i c)) → Cont w L ⟨.h m, 0, []⟩ rows val → ∃ news val2, Src P sz w v rows.length news ∧ (∀ r ∈ rows, r.length = sz) ∧ Cont w L ⟨.h m, 0, []⟩ rows val2 ∧ Lies rows sz 0 news val2 := by
    rintro B o cap cur e fz val rfl rfl hB hlen hv hc
    have hk : ∀ k, k < rows.length * sz' → ∃ i c x, cellOf rows i c = some x ∧ k = i * sz' + c ∧ cur[o + k]? = some (val i c) := by
      intro k hk
      obtain ⟨i, c, x, g1, g2, _, _⟩ := cellOf_idx hlen hk
      exact ⟨i, c, x, g1, g2, by rw [g2, ← Nat.add_assoc]; exact hv i c x g1⟩
    have hsize : o + rows.length * sz' ≤ cur.size ∨ rows.length * sz' = 0 := by
      rcases Nat.eq_zero_or_pos (rows.length * sz') with h | h
      · exact .inr h
      · obtain ⟨i, c, x, _, _, g⟩ := hk (rows.length * sz' - 1) (by omega)
        have := (Array.getElem?_eq_some_iff.1 g).1
        exact .inl (by omega)
    rcases hsize with hsize | h0
    · refine ⟨cur.extract o (o + rows.length * sz'), val, ⟨fun w' => by simp [Builtin.lenOf], fun w' hw => ?_, by simp; omega, ?_⟩, hlen, hc, ?_⟩
      · simp only [Builtin.firstCells]
        exact read_cells (w := w') (by rw [hw]; exact hB) hsize
      · intro u hu
        obtain ⟨k, hk1, hk2⟩ := Array.mem_iff_getElem.1 hu
        simp only [Array.size_extract] at hk1
        obtain ⟨i, c, x, g1, g2, g3⟩ := hk k (by omega)
        have : u = val i c := by
          rw [← hk2, Array.getElem_extract]
          rw [Array.getElem?_eq_getElem (by omega)] at g3
          simpa using g3
        rw [this]
        exact (hc i c x g1).oneCell
      · intro i c x hx
        obtain ⟨h1, h2⟩ := cellOf_lt hlen hx
        have := idx_lt h1 h2
        rw [Nat.zero_add, Array.getElem?_extract, if_pos (by omega), ← Nat.add_assoc]
        exact hv i c x hx
    · refine ⟨#[], val, ⟨fun w' => by simp [Builtin.lenOf], fun w' hw => ?_, by simp [h0], by simp⟩, hlen, hc, ?_⟩
      · simp [Builtin.firstCells, loadCells, loadCellsFrom, h0]
      · intro i c x hx
        obtain ⟨h1, h2⟩ := cellOf_lt hlen hx
        have := idx_lt h1 h2
        omega
  cases h with
  | d h =>
    cases h with
    | plain h =>
      cases h with
      | nil => exact empty rfl ⟨_, _, rfl⟩
      | plE => exact empty rfl ⟨_, _, rfl⟩
      | pl val hne hsz hcap hL hB hlen hv hr => exact full _ _ _ _ _ _ val rfl (hs.resolve_right hne) hB hlen hv (fun i c x hx => .plain (hr i c x hx))
    | ownE => exact empty rfl ⟨_, _, rfl⟩
    | own val hsz hL hB hfz hlen hcap hroom hv hr =>
      rcases hs with hs | hs
      · exact full _ _ _ _ _ _ val rfl hs hB hlen hv (fun i c x hx => by have := hr i c x hx; simpa [Place.sub] using this)
      · exact empty hs ⟨_, _, by rw [hs]; rfl⟩

theorem AppAt.own {m sz : Nat} {rows : List (List D)} {v : Value} (h : AppAt w L ⟨.h m, 0, []⟩ sz rows ⟨.h m, 0, []⟩ v) : RepD w L ⟨.h m, 0, []⟩ (.sl .own sz rows) v := by
  rcases h with ⟨rfl, a, rfl⟩ | ⟨B, o, cap, cur, e, fz, n0, val, rfl, hsz, hL, hB, hfz, hlens, hcap, hroom, hval, hd⟩
  · exact .ownE
  · refine .own val hsz (hL.elim id id) hB hfz hlens hcap hroom hval (fun i c x hx => ?_)
    have := hd i c x hx
    simpa using this
theorem AppAt.of_own {m sz : Nat} {rows : List (List D)} {v : Value} (h : RepD w L ⟨.h m, 0, []⟩ (.sl .own sz rows) v) : AppAt w L ⟨.h m, 0, []⟩ sz rows ⟨.h m, 0, []⟩ v := by
  rcases h.own_inv with ⟨rfl, a, rfl⟩ | ⟨B, o, cap, cur, e, fz, val, rfl, hsz, hL, hB, hfz, hlens, hcap, hroom, hval, hd⟩
  · exact .inl ⟨rfl, a, rfl⟩
  · exact .inr ⟨B, o, cap, cur, e, fz, 0, val, rfl, hsz, .inl hL, hB, hfz, hlens, hcap, hroom, hval, fun i c x hx => by simpa using hd i c x hx⟩

/-- An append, its operands at hand. -/
theorem appTo_rep (M : Mid nm N S0 w0 L0 ws a w L) {sz bytes : Nat} {v : V} {u x : Value} {src : List (List D)} {t ut ty e : TypeId} {i : TypeInfo} {dd : TypeDesc} {z : Value} (T : AppT P sz bytes t ut e i dd z) (hv : LimV nm w0 L0 S0.γ w L (S0.wrs ws).γ 0 v u)
    {news : Array Value} {val2 : Nat → Nat → Value} (hx : Src P sz w x src.length news) (hsl : ∀ r ∈ src, r.length = sz) (hc2 : Cont w L ⟨.h 1, 0, []⟩ src val2) (hl2 : Lies src sz 0 news val2)
    (hr : (appTo sz bytes v ws src).run S0 = some r) {dst : Option Nat} (hd : ∀ d, dst = some d → d < N) :
    ∃ v' w', (Builtin.append_ #[t, ut] ty #[u, x]).run P w = .ok v' w' ∧ Aft nm N S0 w0 L0 a dst r.1 r.2 v' w' := by
  unfold appTo at hr
  split at hr
  · -- one's own
    rename_i sz' rows
    obtain ⟨hg, h2⟩ := Q.run_guard_some hr
    obtain rfl := Q.run_pure_some h2
    simp only [Bool.and_eq_true, beq_iff_eq, decide_eq_true_eq] at hg
    obtain ⟨rfl, hb⟩ := hg
    have hv' : RepC nm w L (S0.wrs ws).γ (.h 0) 0 (.d (.sl .own sz' rows)) u := hv
    cases hv' with
    | d hv' =>
      obtain ⟨v', w', L', g1, g2, g3, g4, g5, _⟩ := app_core (ty := ty) M.rel (by omega : (0 : Nat) ≠ 1) T (.inl (AppAt.of_own hv')) (.inl rfl) hx hsl hc2 hl2 hb
      exact ⟨v', w', g1, (g5 rfl).aft (M.mono.trans g2) hd (m := 0) (.one (.d g3.own))⟩
  · -- nil
    rename_i bn sz' rows
    obtain ⟨hg, h2⟩ := Q.run_guard_some hr
    obtain rfl := Q.run_pure_some h2
    simp only [Bool.and_eq_true, beq_iff_eq, decide_eq_true_eq] at hg
    obtain ⟨⟨rfl, rfl⟩, hb⟩ := hg
    have hv' : RepC nm w L (S0.wrs ws).γ (.h 0) 0 (.d (.sl (.im true) sz' rows)) u := hv
    cases hv' with
    | d hv' =>
      cases hv' with
      | plain hv' =>
        cases hv'
        cases src with
        | nil =>
          obtain ⟨ht, hu, hd', hi, hz, hs1, hzs, hsz, hs2, hb0⟩ := T
          have hrun := run_append_in0 (ty := ty) (w := w) (b := none) (sLen := 0) (sCap := 0) ht hu hd' hi (by rw [hs1]; exact hx) (Nat.le_refl _)
          exact ⟨_, w, hrun, M.rel.aft M.mono hd (m := 0) (.one (.d (.plain (by simpa using RepP.nil))))⟩
        | cons r0 rs =>
          obtain ⟨v', w', L', g1, g2, g3, g4, g5, _⟩ := app_core (ty := ty) (rows := []) (pl := ⟨.h 0, 0, []⟩) M.rel (by omega : (0 : Nat) ≠ 1) T (.inr ⟨rfl, by simp, rfl⟩) (.inl rfl) hx hsl hc2 hl2 (by simpa using hb)
          exact ⟨v', w', g1, (g5 rfl).aft (M.mono.trans g2) hd (m := 0) (.one (.d g3.own))⟩
  · -- a view
    rename_i pl g sz' off len
    obtain ⟨res, h3, h4⟩ := Q.run_bind_some hr
    obtain ⟨e', x', rows⟩ := res
    obtain ⟨rfl, hgg, hE, hn⟩ := ownAt_run h3
    obtain ⟨hg, h5⟩ := Q.run_guard_some h4
    have h6 := Q.run_at_some h5
    obtain rfl := Q.run_pure_some h6
    simp only [Bool.and_eq_true, beq_iff_eq, decide_eq_true_eq] at hg
    obtain ⟨⟨⟨⟨rfl, rfl⟩, rfl⟩, hfr⟩, hb⟩ := hg
    obtain ⟨f1, f2, f3⟩ := fresh_γ (S := S0) hfr
    have hv' : RepC nm w0 L0 S0.γ (.h 0) 0 (.view pl g sz' 0 rows.length) u := hv
    cases hv' with
    | view hv0 hh hgl hV =>
      obtain ⟨u0, hu0⟩ := M.at_own hh hE hn
      have hA : AppAt w L pl sz' rows ⟨.h 0, 0, []⟩ u := by
        rcases hV hgg with ⟨h0, a0, rfl⟩ | ⟨B, o, cap, cur, e', fz, rfl, hsz, hL, hB, hfz, hle, hroom⟩
        · exact .inl ⟨List.length_eq_zero_iff.1 h0, a0, rfl⟩
        · have hLB := (M.stp.view B pl o hh f1 hL).1
          have hBw : w.heap[B]? = some (.cells cur e' fz) := (M.heap B _ hL).trans hB
          simp only [Nat.zero_mul, Nat.add_zero] at hroom ⊢
          rcases hu0.own_inv with ⟨rfl, _⟩ | ⟨B', o', cap', cur', e2, fz', val, _, _, hL', hB', _, hlens, hcap', hroom', hval, hrr⟩
          · exact .inr ⟨B, o, cap, cur, e', fz, 0, fun _ _ => undef, rfl, hsz, .inl hLB, hBw, hfz, by simp, by simp, hroom, fun i c x hx => by simp [cellOf] at hx, fun i c x hx => by simp [cellOf] at hx⟩
          · obtain rfl := M.rel.rowInj B' B pl o' o hL' hLB
            obtain rfl : o' = o := by rw [hL'] at hLB; simpa using hLB
            obtain ⟨rfl, rfl, rfl⟩ : cur' = cur ∧ e2 = e' ∧ fz' = fz := by rw [hB'] at hBw; simpa using hBw
            exact .inr ⟨B', o', cap, cur', e2, fz', rows.length, val, rfl, hsz, .inl hL', hB', hfz, hlens, hle, hroom, hval, fun i c x hx => by
              rw [if_pos (cellOf_lt hlens hx).1]; exact hrr i c x hx⟩
      obtain ⟨v', w', L', g1, g2, g3, g4, _, g5⟩ := app_core (ty := ty) M.rel (by omega : (0 : Nat) ≠ 1) T (.inl hA) (.inr ⟨hh, x', rows, hE, hn, Nat.le_refl _⟩) hx hsl hc2 hl2 hb
      refine ⟨v', w', g1, Rel.aft (ws := { k := .a pl.k, v := V.dead } :: ws) (g5 hh) (M.mono.trans g2) hd (m := 0) (.one (.appd g4 hh ?_ ?_ (fun _ _ => g3)))⟩
      · rw [hgg]; exact St.γ_wrs_le S0 _ _
      · show (S0.γ (.a pl.k)) + 1 ≤ ((S0.wrs ws).wr { k := .a pl.k, v := V.dead }).γ (.a pl.k)
        rw [St.γ_wr, f2]; simp
  · -- what was appended already
    rename_i pl g aa sz' rows
    obtain ⟨res, h3, h4⟩ := Q.run_bind_some hr
    obtain ⟨e', x', old⟩ := res
    obtain ⟨rfl, hgg, hE, hn⟩ := ownAt_run h3
    have h5 := Q.run_at_some h4
    obtain ⟨hg, h6⟩ := Q.run_guard_some h5
    obtain rfl := Q.run_pure_some h6
    simp only [Bool.and_eq_true, beq_iff_eq, decide_eq_true_eq] at hg
    obtain ⟨⟨⟨⟨rfl, hold⟩, haa⟩, hfr⟩, hb⟩ := hg
    obtain ⟨f1, f2, f3⟩ := fresh_γ (S := S0) hfr
    have hv' : RepC nm w L (S0.wrs ws).γ (.h 0) 0 (.appd pl g aa sz' rows) u := hv
    cases hv' with
    | appd hv0 hh hgl hal hV =>
      have hA := hV (by rw [f1]; exact hgg) (by rw [f2]; exact haa.symm)
      obtain ⟨v', w', L', g1, g2, g3, g4, _, g5⟩ := app_core (ty := ty) M.rel (by omega : (0 : Nat) ≠ 1) T (.inl hA) (.inr ⟨hh, x', old, hE, hn, hold⟩) hx hsl hc2 hl2 hb
      refine ⟨v', w', g1, Rel.aft (ws := { k := .a pl.k, v := V.dead } :: ws) (g5 hh) (M.mono.trans g2) hd (m := 0) (.one (.appd g4 hh ?_ ?_ (fun _ _ => g3)))⟩
      · rw [hgg]; exact St.γ_wrs_le S0 _ _
      · show (S0.γ (.a pl.k)) + 1 ≤ ((S0.wrs ws).wr { k := .a pl.k, v := V.dead }).γ (.a pl.k)
        rw [St.γ_wr, f2]; simp
  · cases hr
end
end Go.Abs
