/- Operations that only compute: conversions, cuts. -/
import Derived.Test.YtjndnconlakjkaaAbsOps4
import Derived.Laws.BytesString
import Derived.Laws.BytesArg
set_option linter.unusedVariables false
set_option linter.unusedSimpArgs false
namespace Go.Abs
section
variable {nm : FuncId → Option Nat} {N : Nat} {S : St} {a : Act} {w : World} {L : LabF} {P : Program} {o : Oper} {Cl : Oracle} {d : Nat} {r : V × List Wr}

theorem ev_un (R : Rel nm N S a w L) (hd : ∀ d, o.dst = some d → d < N) {x : Operand} {X : Abs.X} {op : UnOp} {t : TypeId} (hx : OpRel nm X x) (ho : o.op = .unOp op t x)
    (hr : (evOp Cl d (.un op X)).run S = some r) : OpsTo P a w o (Aft nm N S w L a o.dst r.1 r.2) := by
  simp only [evOp] at hr
  obtain ⟨v1, h1, hr'⟩ := Q.run_bind_some hr
  clear hr
  obtain ⟨z, hz, h2⟩ := Q.run_ofO_some hr'
  clear hr'
  obtain rfl := Q.run_pure_some h2
  clear h2
  have r1 := rd_val R hx h1
  have ex : ∀ {v : Value}, (Op.unary op (a.eval x)).run P w = .ok v w → RepP w L z v → OpsTo P a w o (Aft nm N S w L a o.dst (.one (.d z)) []) :=
    fun hb hp => opVal R hd (by simp [execOp, ho, hb]) (.one (.d (.plain hp)))
  unfold unV at hz
  split at hz
  · cases hz
    refine ex ?_ .bool
    rw [r1.one_inv.bool_inv]; rfl
  · cases hz
    refine ex ?_ .int
    rw [r1.one_inv.int_inv]; rfl
  · cases hz
    refine ex ?_ .int
    rw [r1.one_inv.int_inv]; rfl
  · cases hz

theorem ev_convInt (R : Rel nm N S a w L) (hd : ∀ d, o.dst = some d → d < N) {x : Operand} {X : Abs.X} {k : IntKind} {t u : TypeId} {ds : TypeDesc} (hx : OpRel nm X x) (ho : o.op = .convert t u x) (ht : P.underlying t = some ds) (hu : P.underlying u = some (.int k))
    (hr : (evOp Cl d (.conv (.int k) X)).run S = some r) : OpsTo P a w o (Aft nm N S w L a o.dst r.1 r.2) := by
  simp only [evOp] at hr
  obtain ⟨v1, h1, h2⟩ := Q.run_bind_some hr
  clear hr
  have r1 := rd_val R hx h1
  cases v1 with
  | one c =>
    cases c with
    | d z =>
      cases z with
      | int k' n =>
        obtain rfl := Q.run_pure_some h2
        refine opVal R hd (v := .int k (k.wrap n)) ?_ (.one (.d (.plain .int)))
        have : (convert t u (a.eval x)).run P w = .ok (.int k (k.wrap n)) w := by
          rw [r1.one_inv.int_inv]
          simp [convert, run_underlying ht, run_underlying hu, Conv.intToInt]
        simp [execOp, ho, this]
      | _ => cases h2
    | _ => cases h2
  | _ => cases h2

theorem ev_convSame (R : Rel nm N S a w L) (hd : ∀ d, o.dst = some d → d < N) {x : Operand} {X : Abs.X} {t u : TypeId} {ds : TypeDesc} (hx : OpRel nm X x) (ho : o.op = .convert t u x) (ht : P.underlying t = some ds) (hu : P.underlying u = some .string)
    (hr : (evOp Cl d (.conv .same X)).run S = some r) : OpsTo P a w o (Aft nm N S w L a o.dst r.1 r.2) := by
  simp only [evOp] at hr
  obtain ⟨v1, h1, h2⟩ := Q.run_bind_some hr
  clear hr
  have r1 := rd_val R hx h1
  cases v1 with
  | one c =>
    cases c with
    | d z =>
      cases z with
      | str s =>
        obtain rfl := Q.run_pure_some h2
        refine opVal R hd (v := .string ⟨s.toArray⟩) ?_ (.one (.d (.plain .str)))
        have : (convert t u (a.eval x)).run P w = .ok (.string ⟨s.toArray⟩) w := by
          rw [r1.one_inv.str_inv]
          cases ds <;> simp [convert, run_underlying ht, run_underlying hu]
        simp [execOp, ho, this]
      | _ => cases h2
    | _ => cases h2
  | _ => cases h2

/-- What a slice shows, read as data: its numbers. -/
theorem shown_rep (R : Rel nm N S a w L) {v : V} {u : Value} (hv : RepV nm w L S.γ (.h 0) v u) (hcl : v.own = false) {rows : List (List D)} (h : (shown v).run S = some rows) :
    ∃ (b : Option Addr) (cap : Nat), u = .slice b rows.length cap ∧ (rows = [] ∨ ∃ B o cur e fz sz, b = some ⟨B, o, none⟩ ∧ 0 < sz ∧ w.heap[B]? = some (.cells cur e fz) ∧ (∀ r ∈ rows, r.length = sz) ∧
      (∀ i c k n, cellOf rows i c = some (.int k n) → cur[o + i * sz + c]? = some (.int k n))) := by
  unfold shown at h
  split at h
  · cases h
  · rename_i t sz rows' hno
    simp only [Q.run_pure, Option.some.injEq] at h
    subst h
    cases hv.one_inv with
    | d hd =>
      cases hd with
      | plain hp =>
        cases hp with
        | nil => exact ⟨none, 0, rfl, .inl rfl⟩
        | plE => exact ⟨_, _, rfl, .inl rfl⟩
        | @pl sz rows B o cap cur e fz val hne hsz hcapp hL hB hlen hvv hrr =>
          refine ⟨_, _, rfl, .inr ⟨B, o, cur, e, fz, sz, rfl, hsz, hB, hlen, fun i c k n hx => ?_⟩⟩
          have h1 := hvv i c _ hx
          have h2 := hrr i c _ hx
          generalize val i c = u at h1 h2
          cases h2
          exact h1
      | ownE => simp at hno
      | own => simp at hno
  · rename_i pl g sz off len
    obtain ⟨res, h3, h4⟩ := Q.run_bind_some h
    clear h
    obtain ⟨hg, h5⟩ := Q.run_guard_some h4
    clear h4
    simp only [decide_eq_true_eq] at hg
    have hg' : off + len ≤ res.2.2.length := hg
    obtain rfl := Q.run_pure_some h5
    have hlen : (plainRs ((res.2.2.drop off).take len)).length = len := by rw [plainRs_length, List.length_take, List.length_drop]; omega
    cases hv.one_inv with
    | view hv0 hh hgl hV =>
      obtain ⟨hgg, u0, hu0⟩ := ownAt0 R hh h3
      rcases hV hgg with ⟨h0, a0, rfl⟩ | ⟨B, o, cap, cur, e, fz, rfl, hsz, hL, hB, hfz, hlc, hroom⟩
      · refine ⟨a0, 0, by rw [hlen, h0], .inl ?_⟩
        rw [h0]; simp [plainRs]
      · refine ⟨_, _, by rw [hlen], ?_⟩
        rcases hu0.own_inv with ⟨hnil, _⟩ | ⟨B', o', cap', cur', e', fz', val, _, _, hL', hB', _, hlens, hcap', hroom', hval, hr⟩
        · left
          rw [hnil]; simp [plainRs]
        · right
          obtain rfl := R.rowInj B' B pl o' o hL' hL
          obtain rfl : o' = o := by rw [hL'] at hL; simpa using hL
          obtain ⟨rfl, rfl, rfl⟩ : cur' = cur ∧ e' = e ∧ fz' = fz := by rw [hB'] at hB; simpa using hB
          refine ⟨B', _, _, _, _, sz, rfl, hsz, hB', ?_, ?_⟩
          · intro r1 hr1
            rw [plainRs_eq] at hr1
            obtain ⟨r2, h1, rfl⟩ := List.mem_map.1 hr1
            simpa using hlens r2 (List.mem_of_mem_drop (List.mem_of_mem_take h1))
          · intro i c k n hx
            rw [cellOf_plain] at hx
            cases hy : cellOf ((res.2.2.drop off).take len) i c with
            | none => simp [hy] at hx
            | some y =>
              simp only [hy, Option.map_some, Option.some.injEq] at hx
              obtain ⟨rr, k1, k2⟩ := cellOf_some.1 hy
              have hil : i < len := by
                have := (List.getElem?_eq_some_iff.1 k1).1
                rw [List.length_take] at this; omega
              rw [List.getElem?_take_of_lt hil, List.getElem?_drop] at k1
              have hc : cellOf res.2.2 (off + i) c = some y := cellOf_some.2 ⟨rr, k1, k2⟩
              have h1 := hval _ _ _ hc
              have h2 := hr _ _ _ hc
              have hy' : y = .int k n := by
                cases y with
                | sl t _ _ => cases t <;> simp [plainD] at hx
                | _ => simp [plainD] at hx ⊢ <;> exact hx
              subst hy'
              generalize val (off + i) c = u at h1 h2
              cases h2 with
              | plain h2 =>
                cases h2
                rw [Nat.add_mul] at h1
                rw [show o' + off * sz + i * sz + c = o' + (off * sz + i * sz) + c by omega]
                exact h1
  · cases h

theorem toBytes_inv : ∀ (rows : List (List D)) {s : List UInt8}, toBytes rows = some s → rows.length = s.length ∧ ∀ i, i < rows.length → ∃ n, cellOf rows i 0 = some (.int .u8 n) ∧ rows[i]? = some [.int .u8 n] ∧ s[i]? = some (UInt8.ofNat n.toNat)
  | [], s, h => by simp only [toBytes, Option.some.injEq] at h; subst h; exact ⟨rfl, fun i hi => by simp at hi⟩
  | r :: rows, s, h => by
    unfold toBytes at h
    split at h
    · rename_i heq; cases heq
    · rename_i n t heq
      simp only [List.cons.injEq] at heq
      obtain ⟨rfl, rfl⟩ := heq
      cases ht : toBytes rows with
      | none => simp [ht] at h
      | some t' =>
        simp only [ht, Option.map_some, Option.some.injEq] at h
        subst h
        obtain ⟨h1, h2⟩ := toBytes_inv rows ht
        refine ⟨by simp [h1], fun i hi => ?_⟩
        cases i with
        | zero => exact ⟨n, rfl, rfl, rfl⟩
        | succ i =>
          obtain ⟨m, g1, g2, g3⟩ := h2 i (by simpa using hi)
          exact ⟨m, by simpa [cellOf] using g1, by simpa using g2, by simpa using g3⟩
    · cases h

theorem ev_convBytes (R : Rel nm N S a w L) (hd : ∀ d, o.dst = some d → d < N) {x : Operand} {X : Abs.X} {t u e : TypeId} (hx : OpRel nm X x) (hok : X.okC = true) (ho : o.op = .convert t u x) (ht : P.underlying t = some (.slice e)) (hu : P.underlying u = some .string) (he : P.underlying e = some (.int .u8))
    (hr : (evOp Cl d (.conv .bytesStr X)).run S = some r) : OpsTo P a w o (Aft nm N S w L a o.dst r.1 r.2) := by
  simp only [evOp] at hr
  obtain ⟨v1, h1, h2⟩ := Q.run_bind_some hr
  clear hr
  have r1 := rd_val R hx h1
  have hcl := rd_own hok h1
  obtain ⟨rows, h3, h4⟩ := Q.run_bind_some (x := shown v1) (f := fun rows => (Q.ofO (toBytes rows) >>= fun s => pure (.one (.d (.str s)), []))) (r := r) (by
    cases v1 with
    | one c => cases c <;> (try exact h2) <;> (rename_i z; cases z <;> exact h2)
    | _ => exact h2)
  obtain ⟨s, hs, h5⟩ := Q.run_ofO_some h4
  obtain rfl := Q.run_pure_some h5
  obtain ⟨hl, hb⟩ := toBytes_inv rows hs
  refine opVal R hd (v := .string ⟨s.toArray⟩) ?_ (.one (.d (.plain .str)))
  have : (convert t u (a.eval x)).run P w = .ok (.string ⟨s.toArray⟩) w := by
    obtain ⟨b, cap, hax, hcase⟩ := shown_rep R r1 hcl h3
    rw [hax]
    have hconv : (convert t u (.slice b rows.length cap)).run P w = (Conv.bytesToString (.slice b rows.length cap)).run P w := by
      cases b <;> simp [convert, run_underlying ht, run_underlying hu, run_underlying he]
    rw [hconv]
    rcases hcase with rfl | ⟨B, o', cur, e', fz, sz, rfl, hsz, hB, hlens, hcells⟩
    · have : s = [] := List.length_eq_zero_iff.1 (by rw [← hl]; rfl)
      subst this
      cases b with
      | none => simp [Conv.bytesToString]; rfl
      | some ad => simp [Conv.bytesToString, loadCells, loadCellsFrom]; rfl
    · let ns : List Int := rows.map fun r => match r with | [.int _ n] => n | _ => 0
      have hnsl : ns.length = rows.length := by simp [ns]
      have hcell : ∀ i n, ns[i]? = some n → s[i]? = some (UInt8.ofNat n.toNat) ∧ w.cell? ⟨B, o' + i, none⟩ = some (.int .u8 n) := by
        intro i n hin
        have hi : i < rows.length := by rw [← hnsl]; exact (List.getElem?_eq_some_iff.1 hin).1
        obtain ⟨n', g1, g2, g3⟩ := hb i hi
        have hnn : n = n' := by
          simp only [ns, List.getElem?_map, g2, Option.map_some, Option.some.injEq] at hin
          exact hin.symm
        subst hnn
        have hs1 : sz = 1 := by have := hlens _ (List.mem_of_getElem? g2); simpa using this.symm
        subst hs1
        refine ⟨g3, ?_⟩
        rw [cell?_of hB]
        have := hcells i 0 _ _ g1
        rwa [Nat.mul_one, Nat.add_zero] at this
      have hload : (loadCells ⟨B, o', none⟩ rows.length).run P w = .ok (ns.map (Value.int .u8)).toArray w := by
        have := run_loadCells_list (P := P) w ⟨B, o', none⟩ (ns.map (Value.int .u8)) (fun j v hj => by
          simp only [List.getElem?_map] at hj
          cases hn : ns[j]? with
          | none => simp [hn] at hj
          | some n =>
            simp only [hn, Option.map_some, Option.some.injEq] at hj
            subst hj
            rw [add_off]; exact (hcell j n hn).2)
        rwa [List.length_map, hnsl] at this
      rw [run_bytesToString w _ _ _ ns hload, foldl_push_bytes]
      congr 2
      have hs' : ns.map (fun n => UInt8.ofNat n.toNat) = s := by
        apply List.ext_getElem?
        intro i
        rw [List.getElem?_map]
        cases hn : ns[i]? with
        | none =>
          have : rows.length ≤ i := by rw [← hnsl]; exact List.getElem?_eq_none_iff.1 hn
          rw [Option.map_none, List.getElem?_eq_none (by omega)]
        | some n => rw [Option.map_some, (hcell i n hn).1]
      rw [hs']
      apply ByteArray.ext
      show ByteArray.empty.data ++ s.toArray = s.toArray
      rw [show ByteArray.empty.data = #[] from rfl, Array.empty_append]
  simp [execOp, ho, this]

/-- A bound of a cut. -/
theorem optNat_run (R : Rel nm N S a w L) {lo : Option Operand} {X : Option Abs.X} (h : ∀ x, lo = some x → ∃ y, X = some y ∧ OpRel nm y x) (h0 : lo = none → X = none) {dflt n : Nat} (hr : (optNat X dflt).run S = some n) :
    (lo = none ∧ n = dflt) ∨ ∃ x k, lo = some x ∧ a.eval x = .int k n := by
  cases lo with
  | none =>
    rw [h0 rfl] at hr
    simp only [optNat, Q.run_pure, Option.some.injEq] at hr
    exact .inl ⟨rfl, hr.symm⟩
  | some x =>
    obtain ⟨y, rfl, hy⟩ := h x rfl
    simp only [optNat] at hr
    obtain ⟨v, h1, h2⟩ := Q.run_bind_some hr
    rw [Q.run_ofO] at h2
    obtain ⟨k, hk⟩ := asNat_inv (rd_val R hy h1) h2
    exact .inr ⟨x, k, rfl, hk⟩

theorem sliceBounds_run {b : Bool} {len cap l h : Nat} {lo hi : Option Value} (hl : (lo = none ∧ l = 0) ∨ ∃ k, lo = some (.int k l)) (hh : (hi = none ∧ h = len) ∨ ∃ k, hi = some (.int k h)) (h1 : l ≤ h) (h2 : h ≤ len) (h3 : len ≤ cap) :
    (Instr.sliceBounds b len cap lo hi none).run P w = .ok (l, h, cap) w := by
  have e1 : (h : Int) ≤ (cap : Int) := by omega
  have e2 : (l : Int) ≤ (h : Int) := by omega
  rcases hl with ⟨rfl, rfl⟩ | ⟨k, rfl⟩ <;> rcases hh with ⟨rfl, rfl⟩ | ⟨k', rfl⟩ <;>
    simp [Instr.sliceBounds, Instr.sliceBound, asIntOf, e1, e2, Nat.le_trans h2 h3, h1]

theorem ev_sliceStr (R : Rel nm N S a w L) (hd : ∀ d, o.dst = some d → d < N) {x : Operand} {X : Abs.X} {t : TypeId} {lo hi : Option Operand} {LO HI : Option Abs.X} (hx : OpRel nm X x) (ho : o.op = .slice t x lo hi none) (ht : P.underlying t = some .string)
    (hlo : ∀ x, lo = some x → ∃ y, LO = some y ∧ OpRel nm y x) (hlo0 : lo = none → LO = none) (hhi : ∀ x, hi = some x → ∃ y, HI = some y ∧ OpRel nm y x) (hhi0 : hi = none → HI = none)
    (hr : (evOp Cl d (.sliceS X LO HI)).run S = some r) : OpsTo P a w o (Aft nm N S w L a o.dst r.1 r.2) := by
  simp only [evOp] at hr
  obtain ⟨v1, h1, h2⟩ := Q.run_bind_some hr
  clear hr
  have r1 := rd_val R hx h1
  split at h2
  · rename_i s
    obtain ⟨l, h3, h4⟩ := Q.run_bind_some h2
    clear h2
    obtain ⟨h, h5, h6⟩ := Q.run_bind_some h4
    clear h4
    obtain ⟨hg, h7⟩ := Q.run_guard_some h6
    clear h6
    simp only [Bool.and_eq_true, decide_eq_true_eq] at hg
    obtain rfl := Q.run_pure_some h7
    have e1 := r1.one_inv.str_inv
    refine opVal R hd (v := .string ⟨((s.drop l).take (h - l)).toArray⟩) ?_ (.one (.d (.plain .str)))
    have hb := sliceBounds_run (P := P) (w := w) (b := false) (len := s.length) (cap := s.length) (l := l) (h := h) (lo := lo.map a.eval) (hi := hi.map a.eval)
      ((optNat_run R hlo hlo0 h3).imp (fun h => ⟨by rw [h.1]; rfl, h.2⟩) (fun ⟨x, k, h1, h2⟩ => ⟨k, by rw [h1]; simp [h2]⟩))
      ((optNat_run R hhi hhi0 h5).imp (fun h => ⟨by rw [h.1]; rfl, h.2⟩) (fun ⟨x, k, h1, h2⟩ => ⟨k, by rw [h1]; simp [h2]⟩)) hg.1 hg.2 (Nat.le_refl _)
    have hex : (⟨s.toArray⟩ : ByteArray).extract l h = ⟨((s.drop l).take (h - l)).toArray⟩ := by
      apply ByteArray.ext
      rw [ByteArray.data_extract]
      apply Array.ext'
      simp [List.drop_take]
    have : (Instr.sliceAt t (a.eval x) (lo.map a.eval) (hi.map a.eval) none).run P w = .ok (.string ⟨((s.drop l).take (h - l)).toArray⟩) w := by
      rw [e1]
      simp [Instr.sliceAt, Instr.slice, run_underlying ht, bytes_size, hb, hex]
    simp [execOp, ho, this]
  · cases h2

theorem ev_slice (R : Rel nm N S a w L) (hd : ∀ d, o.dst = some d → d < N) {x : Operand} {X : Abs.X} {t e : TypeId} {sz0 : Nat} {lo hi mx : Option Operand} {LO HI MX : Option Abs.X} (hx : OpRel nm X x) (ho : o.op = .slice t x lo hi mx) (ht : P.underlying t = some (.slice e)) (hs : szOf P e = some sz0) (hs0 : sz0 ≠ 0)
    (hlo : ∀ x, lo = some x → ∃ y, LO = some y ∧ OpRel nm y x) (hlo0 : lo = none → LO = none) (hhi : ∀ x, hi = some x → ∃ y, HI = some y ∧ OpRel nm y x) (hhi0 : hi = none → HI = none)
    (hmx : ∀ x, mx = some x → ∃ y, MX = some y ∧ OpRel nm y x) (hmx0 : mx = none → MX = none) (hmxh : mx ≠ none → hi ≠ none)
    (hr : (evOp Cl d (.slice sz0 X LO HI MX)).run S = some r) : OpsTo P a w o (Aft nm N S w L a o.dst r.1 r.2) := by
  simp only [evOp] at hr
  obtain ⟨v1, h1, h2⟩ := Q.run_bind_some hr
  clear hr
  have r1 := rd_val R hx h1
  have bnd : ∀ {l h len cap : Nat}, (optNat LO 0).run S = some l → (optNat HI len).run S = some h → l ≤ h → h ≤ len → len ≤ cap → (Instr.sliceBounds true len cap (lo.map a.eval) (hi.map a.eval) none).run P w = .ok (l, h, cap) w :=
    fun h3 h5 g1 g2 g3 => sliceBounds_run ((optNat_run R hlo hlo0 h3).imp (fun h => ⟨by rw [h.1]; rfl, h.2⟩) (fun ⟨x, k, h1, h2⟩ => ⟨k, by rw [h1]; simp [h2]⟩))
      ((optNat_run R hhi hhi0 h5).imp (fun h => ⟨by rw [h.1]; rfl, h.2⟩) (fun ⟨x, k, h1, h2⟩ => ⟨k, by rw [h1]; simp [h2]⟩)) g1 g2 g3
  have ex : ∀ {b : Option Addr} {len cap l h : Nat}, a.eval x = .slice b len cap → mx = none → (optNat LO 0).run S = some l → (optNat HI len).run S = some h → l ≤ h → h ≤ len → len ≤ cap →
      (execOp a.eval o).run P w = .ok (.value (.slice (if cap = l then b else b.map (·.add (l * sz0))) (h - l) (cap - l))) w := by
    intro b len cap l h hb hm h3 h5 g1 g2 g3
    have hbd := bnd h3 h5 g1 g2 g3
    have : (Instr.sliceAt t (a.eval x) (lo.map a.eval) (hi.map a.eval) (mx.map a.eval)).run P w = .ok (.slice (if cap = l then b else b.map (·.add (l * sz0))) (h - l) (cap - l)) w := by
      rw [hb, hm]
      simp [Instr.sliceAt, Instr.slice, run_underlying ht, hbd, run_sizeOf' hs]
    simp [execOp, ho, this]
  split at h2
  · cases h2
  · rename_i t' sz rows hno
    obtain ⟨l, h3, h4⟩ := Q.run_bind_some h2
    clear h2
    obtain ⟨h, h5, h6⟩ := Q.run_bind_some h4
    clear h4
    obtain ⟨hg, h7⟩ := Q.run_guard_some h6
    clear h6
    simp only [Bool.and_eq_true, decide_eq_true_eq, Bool.or_eq_true, beq_iff_eq, List.isEmpty_iff] at hg
    obtain ⟨⟨hsz0, hg1⟩, hg2⟩ := hg
    have hvd := r1.one_inv
    have hplain : ∃ u, a.eval x = u ∧ RepP w L (.sl t' sz rows) u := by
      refine ⟨_, rfl, ?_⟩
      generalize a.eval x = u at hvd
      cases hvd with
      | d hd =>
        cases hd with
        | plain hp => exact hp
        | ownE => simp at hno
        | own => simp at hno
    obtain ⟨u, hu, hp⟩ := hplain
    split at h7
    · -- no third bound
      have hm : mx = none := by
        cases mx with
        | none => rfl
        | some m => obtain ⟨y, hy, _⟩ := hmx m rfl; cases hy
      obtain rfl := Q.run_pure_some h7
      cases hp with
      | nil =>
        have hl0 : l = 0 := by simp at hg2; omega
        have hh0 : h = 0 := by simpa using hg2
        subst hl0; subst hh0
        refine opVal R hd (v := .slice none 0 0) ?_ (.one (.d (.plain (by simpa using RepP.nil))))
        have := ex hu hm h3 h5 (Nat.le_refl _) (Nat.le_refl _) (Nat.le_refl _)
        simpa using this
      | @plE _ ad cap =>
        have hl0 : l = 0 := by simp at hg2; omega
        have hh0 : h = 0 := by simpa using hg2
        subst hl0; subst hh0
        refine opVal R hd (v := .slice (if cap = 0 then some ad else (some ad).map (·.add (0 * sz0))) 0 (cap - 0)) ?_ (.one (.d (.plain (by split <;> simpa using RepP.plE))))
        exact ex hu hm h3 h5 (Nat.le_refl _) (Nat.le_refl _) (Nat.zero_le _)
      | @pl sz rows B o' cap cur e' fz val hne hsz hcapp hL hB hlen hvv hrr =>
        obtain rfl : sz = sz0 := hsz0.resolve_right hne
        refine opVal R hd (ex hu hm h3 h5 hg1 hg2 hcapp) (.one (.d (.plain ?_)))
        by_cases hlh : h = l
        · rw [hlh, Nat.sub_self, List.take_zero]; split <;> exact .plE
        · have hcl : cap ≠ l := by omega
          have hll : ((rows.drop l).take (h - l)).length = h - l := by rw [List.length_take, List.length_drop]; omega
          rw [if_neg hcl]
          show RepP w L _ (.slice (some ((⟨B, o', none⟩ : Addr).add (l * sz))) (h - l) (cap - l))
          rw [add_off]
          have hcell : ∀ i c y, cellOf ((rows.drop l).take (h - l)) i c = some y → cellOf rows (l + i) c = some y := by
            intro i c y hy
            obtain ⟨rr, k1, k2⟩ := cellOf_some.1 hy
            have hil : i < h - l := by
              have := (List.getElem?_eq_some_iff.1 k1).1
              rw [hll] at this; exact this
            rw [List.getElem?_take_of_lt hil, List.getElem?_drop] at k1
            exact cellOf_some.2 ⟨rr, k1, k2⟩
          suffices hsuf : RepP w L (.sl (.im false) sz ((rows.drop l).take (h - l))) (.slice (some ⟨B, o' + l * sz, none⟩) ((rows.drop l).take (h - l)).length (cap - l)) by rwa [hll] at hsuf
          refine .pl (fun i c => val (l + i) c) ?_ hsz (by omega) hL hB ?_ ?_ ?_
          · intro e0; rw [e0] at hll; simp at hll; omega
          · intro r1 hr1
            exact hlen r1 (List.mem_of_mem_drop (List.mem_of_mem_take hr1))
          · intro i c y hy
            have := hvv _ _ _ (hcell i c y hy)
            rw [Nat.add_mul] at this
            rw [show o' + l * sz + i * sz + c = o' + (l * sz + i * sz) + c by omega]
            exact this
          · intro i c y hy
            exact hrr _ _ _ (hcell i c y hy)
    · -- a third bound: nothing is left
      rename_i mX
      obtain ⟨vm, h8, h9⟩ := Q.run_bind_some h7
      clear h7
      obtain ⟨mm, h10, h11⟩ := Q.run_ofO_some h9
      clear h9
      obtain ⟨hg3, h12⟩ := Q.run_guard_some h11
      clear h11
      simp only [Bool.and_eq_true, beq_iff_eq] at hg3
      obtain ⟨⟨rfl, rfl⟩, rfl⟩ := hg3
      obtain rfl := Q.run_pure_some h12
      cases hmxe : mx with
      | none => cases hmx0 hmxe
      | some m =>
        obtain ⟨y, hy, hym⟩ := hmx m hmxe
        cases hy
        obtain ⟨km, hkm⟩ := asNat_inv (rd_val R hym h8) h10
        obtain ⟨ad, len, cap, hue, hres⟩ : ∃ ad len cap, u = .slice ad len cap ∧ RepD w L ⟨.h 0, 0, []⟩ (.sl t'.emptied sz []) (.slice ad 0 0) := by
          cases hp with
          | nil => exact ⟨_, _, _, rfl, .plain .nil⟩
          | plE => exact ⟨_, _, _, rfl, .ownE⟩
          | pl => exact ⟨_, _, _, rfl, .ownE⟩
        have hiv : ∃ k, hi.map a.eval = some (.int k 0) := by
          rcases optNat_run R hhi hhi0 h5 with ⟨h, _⟩ | ⟨x, k, h1, h2⟩
          · exact absurd h (hmxh (by rw [hmxe]; simp))
          · exact ⟨k, by rw [h1]; simp [h2]⟩
        obtain ⟨kh, hkh⟩ := hiv
        have hlv : (lo.map a.eval = none) ∨ ∃ k, lo.map a.eval = some (.int k 0) := by
          rcases optNat_run R hlo hlo0 h3 with ⟨h, _⟩ | ⟨x, k, h1, h2⟩
          · exact .inl (by rw [h]; rfl)
          · exact .inr ⟨k, by rw [h1]; simp [h2]⟩
        refine opVal R hd (v := .slice ad 0 0) ?_ (.one (.d hres))
        have : (Instr.sliceAt t (a.eval x) (lo.map a.eval) (hi.map a.eval) (mx.map a.eval)).run P w = .ok (.slice ad 0 0) w := by
          rw [hu, hue, hkh, hmxe]
          rcases hlv with hlv | ⟨kl, hlv⟩ <;> rw [hlv] <;>
            simp [Instr.sliceAt, Instr.slice, run_underlying ht, Instr.sliceBounds, Instr.sliceBound, asIntOf, hkm, run_sizeOf' hs]
        simp [execOp, ho, this]
  · rename_i pl g sz off len
    obtain ⟨l, h3, h4⟩ := Q.run_bind_some h2
    clear h2
    obtain ⟨h, h5, h6⟩ := Q.run_bind_some h4
    clear h4
    obtain ⟨hg, h7⟩ := Q.run_guard_some h6
    clear h6
    simp only [Bool.and_eq_true, decide_eq_true_eq, beq_iff_eq, Option.isNone_iff_eq_none] at hg
    obtain ⟨⟨⟨rfl, hg1⟩, hg2⟩, hmn⟩ := hg
    have hm : mx = none := by
      cases mx with
      | none => rfl
      | some m => obtain ⟨y, hy, _⟩ := hmx m rfl; rw [hmn] at hy; cases hy
    obtain rfl := Q.run_pure_some h7
    cases r1.one_inv with
    | view hv0 hh hgl hV =>
      obtain ⟨b, cap, hb, hlc, hbs⟩ := hv0
      refine opVal R hd (ex hb hm h3 h5 hg1 hg2 hlc) (.one (.view ?_ hh hgl (fun he => ?_)))
      · refine ⟨_, _, rfl, by omega, ?_⟩
        obtain ⟨ad, rfl⟩ := Option.isSome_iff_exists.1 hbs
        split <;> rfl
      · rcases hV he with ⟨h0, a0, hval⟩ | ⟨B, o', cap', cur, e', fz, hval, hsz, hL, hB, hfz, hlc', hroom⟩
        · rw [hb] at hval
          simp only [Value.slice.injEq] at hval
          obtain ⟨rfl, _, rfl⟩ := hval
          have : l = 0 := by omega
          subst this
          exact .inl ⟨by omega, a0, by simp; omega⟩
        · rw [hb] at hval
          simp only [Value.slice.injEq, true_and] at hval
          obtain ⟨rfl, rfl⟩ := hval
          by_cases hcl : cap = l
          · subst hcl
            exact .inl ⟨by omega, _, by rw [if_pos rfl, show h - cap = 0 from by omega, Nat.sub_self]⟩
          · right
            refine ⟨B, o', cap - l, cur, e', fz, ?_, hsz, hL, hB, hfz, by omega, ?_⟩
            · rw [if_neg hcl]
              show Value.slice (some ((⟨B, o' + off * sz, none⟩ : Addr).add (l * sz))) _ _ = _
              rw [add_off, Nat.add_mul, Nat.add_assoc]
            · rw [Nat.add_mul]
              have : (cap - l) * sz + l * sz = cap * sz := by rw [← Nat.add_mul, Nat.sub_add_cancel (by omega)]
              omega
  · cases h2
end
end Go.Abs
