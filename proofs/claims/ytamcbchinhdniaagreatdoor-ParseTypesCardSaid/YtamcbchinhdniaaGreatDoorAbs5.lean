/- An evaluator of the model's code over plain data, and that what it answers the model does: part 6 of 10. -/
import Derived.Test.YtamcbchinhdniaaGreatDoorAbs4
import Derived.Laws.BytesString
import Derived.Laws.BytesArg
import Derived.Laws.MakeOwn
set_option linter.unusedVariables false
set_option linter.unusedSimpArgs false
namespace Go.Abs
section
section
variable {nm : FuncId → Option Nat} {N : Nat} {S : St} {a : Act} {w : World} {L : LabF} {P : Program} {o : Oper} {Cl : Oracle} {d : Nat} {r : V × List Wr}
theorem ev_un (R : Rel nm N S a w L) (hd : ∀ d, o.dst = some d → d < N) {x : Operand} {X : Abs.X} {op : UnOp} {t : TypeId} (hx : OpRel nm X x) (ho : o.op = .unOp op t x)
    (hr : (evOp Cl d (.un op X)).run S = some r) : OpsTo P a w o (Aft nm N S w L a o.dst r.1 r.2) := by
  simp only [evOp] at hr
  obtain ⟨v1, h1, hr'⟩ := Q.run_bind_some hr
  clear hr
  obtain ⟨z, hz, h2⟩ := Q.run_ofO_some hr'
  clear hr'
  obtain rfl := Q.run_pure_some h2
  clear h2
  have r1 := rd_val R hx h1
  have ex : ∀ {v : Value}, (Op.unary op (a.eval x)).run P w = .ok v w → RepP w L z v → OpsTo P a w o (Aft nm N S w L a o.dst (.one (.d z)) []) :=
    fun hb hp => opVal R hd (by simp [execOp, ho, hb]) (.one (.d (.plain hp)))
  unfold unV at hz
  split at hz
  · cases hz
    refine ex ?_ .bool
    rw [r1.one_inv.bool_inv]; rfl
  · cases hz
    refine ex ?_ .int
    rw [r1.one_inv.int_inv]; rfl
  · cases hz
    refine ex ?_ .int
    rw [r1.one_inv.int_inv]; rfl
  · cases hz
theorem ev_convInt (R : Rel nm N S a w L) (hd : ∀ d, o.dst = some d → d < N) {x : Operand} {X : Abs.X} {k : IntKind} {t u : TypeId} {ds : TypeDesc} (hx : OpRel nm X x) (ho : o.op = .convert t u x) (ht : P.underlying t = some ds) (hu : P.underlying u = some (.int k))
    (hr : (evOp Cl d (.conv (.int k) X)).run S = some r) : OpsTo P a w o (Aft nm N S w L a o.dst r.1 r.2) := by
  simp only [evOp] at hr
  obtain ⟨v1, h1, h2⟩ := Q.run_bind_some hr
  clear hr
  have r1 := rd_val R hx h1
  cases v1 with
  | one c =>
    cases c with
    | d z =>
      cases z with
      | int k' n =>
        obtain rfl := Q.run_pure_some h2
        refine opVal R hd (v := .int k (k.wrap n)) ?_ (.one (.d (.plain .int)))
        have : (convert t u (a.eval x)).run P w = .ok (.int k (k.wrap n)) w := by
          rw [r1.one_inv.int_inv]
          simp [convert, run_underlying ht, run_underlying hu, Conv.intToInt]
        simp [execOp, ho, this]
      | _ => cases h2
    | _ => cases h2
  | _ => cases h2
theorem ev_convSame (R : Rel nm N S a w L) (hd : ∀ d, o.dst = some d → d < N) {x : Operand} {X : Abs.X} {t u : TypeId} {ds : TypeDesc} (hx : OpRel nm X x) (ho : o.op = .convert t u x) (ht : P.underlying t = some ds) (hu : P.underlying u = some .string)
    (hr : (evOp Cl d (.conv .same X)).run S = some r) : OpsTo P a w o (Aft nm N S w L a o.dst r.1 r.2) := by
  simp only [evOp] at hr
  obtain ⟨v1, h1, h2⟩ := Q.run_bind_some hr
  clear hr
  have r1 := rd_val R hx h1
  cases v1 with
  | one c =>
    cases c with
    | d z =>
      cases z with
      | str s =>
        obtain rfl := Q.run_pure_some h2
        refine opVal R hd (v := .string ⟨s.toArray⟩) ?_ (.one (.d (.plain .str)))
        have : (convert t u (a.eval x)).run P w = .ok (.string ⟨s.toArray⟩) w := by
          rw [r1.one_inv.str_inv]
          cases ds <;> simp [convert, run_underlying ht, run_underlying hu]
        simp [execOp, ho, this]
      | _ => cases h2
    | _ => cases h2
  | _ => cases h2
theorem shown_rep (R : Rel nm N S a w L) {v : V} {u : Value} (hv : RepV nm w L S.γ (.h 0) v u) (hcl : v.own = false) {rows : List (List D)} (h : (shown v).run S = some rows) :
    ∃ (b : Option Addr) (cap : Nat), u = .slice b rows.length cap ∧ (rows = [] ∨ ∃ B o cur e fz sz, b = some ⟨B, o, none⟩ ∧ 0 < sz ∧ w.heap[B]? = some (.cells cur e fz) ∧ (∀ r ∈ rows, r.length = sz) ∧
      (∀ i c k n, cellOf rows i c = some (.int k n) → cur[o + i * sz + c]? = some (.int k n))) := by
  unfold shown at h
  split at h
  · cases h
  · rename_i t sz rows' hno
    simp only [Q.run_pure, Option.some.injEq] at h
    subst h
    cases hv.one_inv with
    | d hd =>
      cases hd with
      | plain hp =>
        cases hp with
        | nil => exact ⟨none, 0, rfl, .inl rfl⟩
        | plE => exact ⟨_, _, rfl, .inl rfl⟩
        | @pl sz rows B o cap cur e fz val hne hsz hcapp hL hB hlen hvv hrr =>
          refine ⟨_, _, rfl, .inr ⟨B, o, cur, e, fz, sz, rfl, hsz, hB, hlen, fun i c k n hx => ?_⟩⟩
          have h1 := hvv i c _ hx
          have h2 := hrr i c _ hx
          generalize val i c = u at h1 h2
          cases h2
          exact h1
      | ownE => simp at hno
      | own => simp at hno
  · rename_i pl g sz off len
    obtain ⟨res, h3, h4⟩ := Q.run_bind_some h
    clear h
    obtain ⟨hg, h5⟩ := Q.run_guard_some h4
    clear h4
    simp only [decide_eq_true_eq] at hg
    have hg' : off + len ≤ res.2.2.length := hg
    obtain rfl := Q.run_pure_some h5
    have hlen : (plainRs ((res.2.2.drop off).take len)).length = len := by rw [plainRs_length, List.length_take, List.length_drop]; omega
    cases hv.one_inv with
    | view hv0 hh hgl hV =>
      obtain ⟨hgg, u0, hu0⟩ := ownAt0 R hh h3
      rcases hV hgg with ⟨h0, a0, rfl⟩ | ⟨B, o, cap, cur, e, fz, rfl, hsz, hL, hB, hfz, hlc, hroom, _⟩
      · refine ⟨a0, 0, by rw [hlen, h0], .inl ?_⟩
        rw [h0]; simp [plainRs]
      · refine ⟨_, _, by rw [hlen], ?_⟩
        rcases hu0.own_inv with ⟨hnil, _⟩ | ⟨B', o', cap', cur', e', fz', val, _, _, hL', hB', _, hlens, hcap', hroom', hval, hr, hu8⟩
        · left
          rw [hnil]; simp [plainRs]
        · right
          obtain rfl := R.rowInj B' B pl o' o hL' hL
          obtain rfl : o' = o := by rw [hL'] at hL; simpa using hL
          obtain ⟨rfl, rfl, rfl⟩ : cur' = cur ∧ e' = e ∧ fz' = fz := by rw [hB'] at hB; simpa using hB
          refine ⟨B', _, _, _, _, sz, rfl, hsz, hB', ?_, ?_⟩
          · intro r1 hr1
            rw [plainRs_eq] at hr1
            obtain ⟨r2, h1, rfl⟩ := List.mem_map.1 hr1
            simpa using hlens r2 (List.mem_of_mem_drop (List.mem_of_mem_take h1))
          · intro i c k n hx
            rw [cellOf_plain] at hx
            cases hy : cellOf ((res.2.2.drop off).take len) i c with
            | none => simp [hy] at hx
            | some y =>
              simp only [hy, Option.map_some, Option.some.injEq] at hx
              obtain ⟨rr, k1, k2⟩ := cellOf_some.1 hy
              have hil : i < len := by
                have := (List.getElem?_eq_some_iff.1 k1).1
                rw [List.length_take] at this; omega
              rw [List.getElem?_take_of_lt hil, List.getElem?_drop] at k1
              have hc : cellOf res.2.2 (off + i) c = some y := cellOf_some.2 ⟨rr, k1, k2⟩
              have h1 := hval _ _ _ hc
              have h2 := hr _ _ _ hc
              have hy' : y = .int k n := by
                cases y with
                | sl t _ _ => cases t <;> simp [plainD] at hx
                | _ => simp [plainD] at hx ⊢ <;> exact hx
              subst hy'
              generalize val (off + i) c = u at h1 h2
              cases h2 with
              | plain h2 =>
                cases h2
                rw [Nat.add_mul] at h1
                rw [show o' + off * sz + i * sz + c = o' + (off * sz + i * sz) + c by omega]
                exact h1
  · cases h
theorem toBytes_inv : ∀ (rows : List (List D)) {s : List UInt8}, toBytes rows = some s → rows.length = s.length ∧ ∀ i, i < rows.length → ∃ n, cellOf rows i 0 = some (.int .u8 n) ∧ rows[i]? = some [.int .u8 n] ∧ s[i]? = some (UInt8.ofNat n.toNat)
  | [], s, h => by simp only [toBytes, Option.some.injEq] at h; subst h; exact ⟨rfl, fun i hi => by simp at hi⟩
  | r :: rows, s, h => by
    unfold toBytes at h
    split at h
    · rename_i heq; cases heq
    · rename_i n t heq
      simp only [List.cons.injEq] at heq
      obtain ⟨rfl, rfl⟩ := heq
      cases ht : toBytes rows with
      | none => simp [ht] at h
      | some t' =>
        simp only [ht, Option.map_some, Option.some.injEq] at h
        subst h
        obtain ⟨h1, h2⟩ := toBytes_inv rows ht
        refine ⟨by simp [h1], fun i hi => ?_⟩
        cases i with
        | zero => exact ⟨n, rfl, rfl, rfl⟩
        | succ i =>
          obtain ⟨m, g1, g2, g3⟩ := h2 i (by simpa using hi)
          exact ⟨m, by simpa [cellOf] using g1, by simpa using g2, by simpa using g3⟩
    · cases h
theorem bytes_core {w : World} {rows : List (List D)} {s : List UInt8} (hs : toBytes rows = some s) {b : Option Addr} {cap : Nat}
    (hcase : rows = [] ∨ ∃ B o cur e fz sz, b = some ⟨B, o, none⟩ ∧ 0 < sz ∧ w.heap[B]? = some (.cells cur e fz) ∧ (∀ r ∈ rows, r.length = sz) ∧
      (∀ i c k n, cellOf rows i c = some (.int k n) → cur[o + i * sz + c]? = some (.int k n))) :
    (Conv.bytesToString (.slice b rows.length cap)).run P w = .ok (.string ⟨s.toArray⟩) w := by
  obtain ⟨hl, hb⟩ := toBytes_inv rows hs
  rcases hcase with rfl | ⟨B, o', cur, e', fz, sz, rfl, hsz, hB, hlens, hcells⟩
  · have : s = [] := List.length_eq_zero_iff.1 (by rw [← hl]; rfl)
    subst this
    cases b with
    | none => simp [Conv.bytesToString]; rfl
    | some ad => simp [Conv.bytesToString, loadCells, loadCellsFrom]; rfl
  · let ns : List Int := rows.map fun r => match r with | [.int _ n] => n | _ => 0
    have hnsl : ns.length = rows.length := by simp [ns]
    have hcell : ∀ i n, ns[i]? = some n → s[i]? = some (UInt8.ofNat n.toNat) ∧ w.cell? ⟨B, o' + i, none⟩ = some (.int .u8 n) := by
      intro i n hin
      have hi : i < rows.length := by rw [← hnsl]; exact (List.getElem?_eq_some_iff.1 hin).1
      obtain ⟨n', g1, g2, g3⟩ := hb i hi
      have hnn : n = n' := by
        simp only [ns, List.getElem?_map, g2, Option.map_some, Option.some.injEq] at hin
        exact hin.symm
      subst hnn
      have hs1 : sz = 1 := by have := hlens _ (List.mem_of_getElem? g2); simpa using this.symm
      subst hs1
      refine ⟨g3, ?_⟩
      rw [cell?_of hB]
      have := hcells i 0 _ _ g1
      rwa [Nat.mul_one, Nat.add_zero] at this
    have hload : (loadCells ⟨B, o', none⟩ rows.length).run P w = .ok (ns.map (Value.int .u8)).toArray w := by
      have := run_loadCells_list (P := P) w ⟨B, o', none⟩ (ns.map (Value.int .u8)) (fun j v hj => by
        simp only [List.getElem?_map] at hj
        cases hn : ns[j]? with
        | none => simp [hn] at hj
        | some n =>
          simp only [hn, Option.map_some, Option.some.injEq] at hj
          subst hj
          rw [add_off]; exact (hcell j n hn).2)
      rwa [List.length_map, hnsl] at this
    rw [run_bytesToString w _ _ _ ns hload, foldl_push_bytes]
    congr 2
    have hs' : ns.map (fun n => UInt8.ofNat n.toNat) = s := by
      apply List.ext_getElem?
      intro i
      rw [List.getElem?_map]
      cases hn : ns[i]? with
      | none =>
        have : rows.length ≤ i := by rw [← hnsl]; exact List.getElem?_eq_none_iff.1 hn
        rw [Option.map_none, List.getElem?_eq_none (by omega)]
      | some n => rw [Option.map_some, (hcell i n hn).1]
    rw [hs']
    apply ByteArray.ext
    show ByteArray.empty.data ++ s.toArray = s.toArray
    rw [show ByteArray.empty.data = #[] from rfl, Array.empty_append]
theorem shownA_rep (R : Rel nm N S a w L) {x : Operand} {X : Abs.X} (hx : OpRel nm X x) {rows : List (List D)} (h : (shownA X).run S = some rows) :
    ∃ (b : Option Addr) (cap : Nat), a.eval x = .slice b rows.length cap ∧ (rows = [] ∨ ∃ B o cur e fz sz, b = some ⟨B, o, none⟩ ∧ 0 < sz ∧ w.heap[B]? = some (.cells cur e fz) ∧ (∀ r ∈ rows, r.length = sz) ∧
      (∀ i c k n, cellOf rows i c = some (.int k n) → cur[o + i * sz + c]? = some (.int k n))) := by
  cases hx with
  | @s i =>
    unfold shownA at h
    have h1 := Q.run_at_some h
    clear h
    have hv := R.slot i
    cases hE : S.E (.s i) with
    | one c =>
      cases c with
      | appd pl g aa sz rows' =>
        have hE2 : (S.get (.s i)).v = .one (.appd pl g aa sz rows') := hE
        rw [hE2] at h1
        have h2 := Q.run_at_some h1
        have h3 := Q.run_at_some h2
        obtain ⟨hg, h4⟩ := Q.run_guard_some h3
        obtain rfl := Q.run_pure_some h4
        simp only [Bool.and_eq_true, beq_iff_eq] at hg
        rw [hE] at hv
        cases hv.one_inv with
        | appd hv0 hh hgl hal hV =>
          rcases hV hg.1.symm hg.2.symm with ⟨h0, ad, h5⟩ | ⟨B, o, cap, cur, e, fz, n0, val, h5, hsz, hL, hB, hfz, hlen, hcap, hroom, hvv, hrr, hu8⟩
          · refine ⟨some ad, 0, ?_, .inl h0⟩
            rw [h0]; exact h5
          · refine ⟨_, cap, h5, .inr ⟨B, o, cur, e, fz, sz, rfl, hsz, hB, hlen, fun i c k n hx => ?_⟩⟩
            have g1 := hvv i c _ hx
            have g2 := hrr i c _ hx
            generalize val i c = u at g1 g2
            cases g2 with
            | plain g2 => cases g2; exact g1
      | _ => have hE2 : (S.get (.s i)).v = .one _ := hE
             rw [hE2] at h1; cases h1
    | _ => have hE2 : (S.get (.s i)).v = _ := hE
           rw [hE2] at h1; cases h1
  | _ => cases h
theorem ev_convBytes (R : Rel nm N S a w L) (hd : ∀ d, o.dst = some d → d < N) {x : Operand} {X : Abs.X} {t u e : TypeId} (hx : OpRel nm X x) (hok : X.okC = true) (ho : o.op = .convert t u x) (ht : P.underlying t = some (.slice e)) (hu : P.underlying u = some .string) (he : P.underlying e = some (.int .u8))
    (hr : (evOp Cl d (.conv .bytesStr X)).run S = some r) : OpsTo P a w o (Aft nm N S w L a o.dst r.1 r.2) := by
  have core : ∀ (rows : List (List D)) (s : List UInt8), toBytes rows = some s → (∃ (b : Option Addr) (cap : Nat), a.eval x = .slice b rows.length cap ∧ (rows = [] ∨ ∃ B o cur e fz sz, b = some ⟨B, o, none⟩ ∧ 0 < sz ∧ w.heap[B]? = some (.cells cur e fz) ∧ (∀ r ∈ rows, r.length = sz) ∧
      (∀ i c k n, cellOf rows i c = some (.int k n) → cur[o + i * sz + c]? = some (.int k n)))) → r = (.one (.d (.str s)), []) → OpsTo P a w o (Aft nm N S w L a o.dst r.1 r.2) := by
    rintro rows s hs ⟨b, cap, hax, hcase⟩ rfl
    refine opVal R hd (v := .string ⟨s.toArray⟩) ?_ (.one (.d (.plain .str)))
    have : (convert t u (a.eval x)).run P w = .ok (.string ⟨s.toArray⟩) w := by
      rw [hax]
      have hconv : (convert t u (.slice b rows.length cap)).run P w = (Conv.bytesToString (.slice b rows.length cap)).run P w := by
        cases b <;> simp [convert, run_underlying ht, run_underlying hu, run_underlying he]
      rw [hconv]
      exact bytes_core hs hcase
    simp [execOp, ho, this]
  simp only [evOp] at hr
  obtain ⟨v1, h1, h2⟩ := Q.run_bind_some hr
  clear hr
  have r1 := rd_val R hx h1
  have hcl := rd_own hok h1
  by_cases hde : v1 = .one .dead
  · subst hde
    obtain ⟨rows, h3, h4⟩ := Q.run_bind_some h2
    obtain ⟨s, hs, h5⟩ := Q.run_ofO_some h4
    exact core rows s hs (shownA_rep R hx h3) (Q.run_pure_some h5)
  · obtain ⟨rows, h3, h4⟩ := Q.run_bind_some (x := shown v1) (f := fun rows => (Q.ofO (toBytes rows) >>= fun s => pure (.one (.d (.str s)), []))) (r := r) (by
      cases v1 with
      | one c => cases c <;> (try exact h2) <;> (try exact absurd rfl hde) <;> (rename_i z; cases z <;> exact h2)
      | _ => exact h2)
    obtain ⟨s, hs, h5⟩ := Q.run_ofO_some h4
    exact core rows s hs (shown_rep R r1 hcl h3) (Q.run_pure_some h5)
theorem optNat_run (R : Rel nm N S a w L) {lo : Option Operand} {X : Option Abs.X} (h : ∀ x, lo = some x → ∃ y, X = some y ∧ OpRel nm y x) (h0 : lo = none → X = none) {dflt n : Nat} (hr : (optNat X dflt).run S = some n) :
    (lo = none ∧ n = dflt) ∨ ∃ x k, lo = some x ∧ a.eval x = .int k n := by
  cases lo with
  | none =>
    rw [h0 rfl] at hr
    simp only [optNat, Q.run_pure, Option.some.injEq] at hr
    exact .inl ⟨rfl, hr.symm⟩
  | some x =>
    obtain ⟨y, rfl, hy⟩ := h x rfl
    simp only [optNat] at hr
    obtain ⟨v, h1, h2⟩ := Q.run_bind_some hr
    rw [Q.run_ofO] at h2
    obtain ⟨k, hk⟩ := asNat_inv (rd_val R hy h1) h2
    exact .inr ⟨x, k, rfl, hk⟩
theorem sliceBounds_run {b : Bool} {len cap l h : Nat} {lo hi : Option Value} (hl : (lo = none ∧ l = 0) ∨ ∃ k, lo = some (.int k l)) (hh : (hi = none ∧ h = len) ∨ ∃ k, hi = some (.int k h)) (h1 : l ≤ h) (h2 : h ≤ len) (h3 : len ≤ cap) :
    (Instr.sliceBounds b len cap lo hi none).run P w = .ok (l, h, cap) w := by
  have e1 : (h : Int) ≤ (cap : Int) := by omega
  have e2 : (l : Int) ≤ (h : Int) := by omega
  rcases hl with ⟨rfl, rfl⟩ | ⟨k, rfl⟩ <;> rcases hh with ⟨rfl, rfl⟩ | ⟨k', rfl⟩ <;>
    simp [Instr.sliceBounds, Instr.sliceBound, asIntOf, e1, e2, Nat.le_trans h2 h3, h1]
theorem ev_sliceStr (R : Rel nm N S a w L) (hd : ∀ d, o.dst = some d → d < N) {x : Operand} {X : Abs.X} {t : TypeId} {lo hi : Option Operand} {LO HI : Option Abs.X} (hx : OpRel nm X x) (ho : o.op = .slice t x lo hi none) (ht : P.underlying t = some .string)
    (hlo : ∀ x, lo = some x → ∃ y, LO = some y ∧ OpRel nm y x) (hlo0 : lo = none → LO = none) (hhi : ∀ x, hi = some x → ∃ y, HI = some y ∧ OpRel nm y x) (hhi0 : hi = none → HI = none)
    (hr : (evOp Cl d (.sliceS X LO HI)).run S = some r) : OpsTo P a w o (Aft nm N S w L a o.dst r.1 r.2) := by
  simp only [evOp] at hr
  obtain ⟨v1, h1, h2⟩ := Q.run_bind_some hr
  clear hr
  have r1 := rd_val R hx h1
  split at h2
  · rename_i s
    obtain ⟨l, h3, h4⟩ := Q.run_bind_some h2
    clear h2
    obtain ⟨h, h5, h6⟩ := Q.run_bind_some h4
    clear h4
    obtain ⟨hg, h7⟩ := Q.run_guard_some h6
    clear h6
    simp only [Bool.and_eq_true, decide_eq_true_eq] at hg
    obtain rfl := Q.run_pure_some h7
    have e1 := r1.one_inv.str_inv
    refine opVal R hd (v := .string ⟨((s.drop l).take (h - l)).toArray⟩) ?_ (.one (.d (.plain .str)))
    have hb := sliceBounds_run (P := P) (w := w) (b := false) (len := s.length) (cap := s.length) (l := l) (h := h) (lo := lo.map a.eval) (hi := hi.map a.eval)
      ((optNat_run R hlo hlo0 h3).imp (fun h => ⟨by rw [h.1]; rfl, h.2⟩) (fun ⟨x, k, h1, h2⟩ => ⟨k, by rw [h1]; simp [h2]⟩))
      ((optNat_run R hhi hhi0 h5).imp (fun h => ⟨by rw [h.1]; rfl, h.2⟩) (fun ⟨x, k, h1, h2⟩ => ⟨k, by rw [h1]; simp [h2]⟩)) hg.1 hg.2 (Nat.le_refl _)
    have hex : (⟨s.toArray⟩ : ByteArray).extract l h = ⟨((s.drop l).take (h - l)).toArray⟩ := by
      apply ByteArray.ext
      rw [ByteArray.data_extract]
      apply Array.ext'
      simp [List.drop_take]
    have : (Instr.sliceAt t (a.eval x) (lo.map a.eval) (hi.map a.eval) none).run P w = .ok (.string ⟨((s.drop l).take (h - l)).toArray⟩) w := by
      rw [e1]
      simp [Instr.sliceAt, Instr.slice, run_underlying ht, bytes_size, hb, hex]
    simp [execOp, ho, this]
  · cases h2
theorem ev_slice (R : Rel nm N S a w L) (hd : ∀ d, o.dst = some d → d < N) {x : Operand} {X : Abs.X} {t e : TypeId} {sz0 : Nat} {lo hi mx : Option Operand} {LO HI MX : Option Abs.X} (hx : OpRel nm X x) (ho : o.op = .slice t x lo hi mx) (ht : P.underlying t = some (.slice e)) (hs : szOf P e = some sz0) (hs0 : sz0 ≠ 0)
    (hlo : ∀ x, lo = some x → ∃ y, LO = some y ∧ OpRel nm y x) (hlo0 : lo = none → LO = none) (hhi : ∀ x, hi = some x → ∃ y, HI = some y ∧ OpRel nm y x) (hhi0 : hi = none → HI = none)
    (hmx : ∀ x, mx = some x → ∃ y, MX = some y ∧ OpRel nm y x) (hmx0 : mx = none → MX = none) (hmxh : mx ≠ none → hi ≠ none)
    (hr : (evOp Cl d (.slice sz0 X LO HI MX)).run S = some r) : OpsTo P a w o (Aft nm N S w L a o.dst r.1 r.2) := by
  simp only [evOp] at hr
  obtain ⟨v1, h1, h2⟩ := Q.run_bind_some hr
  clear hr
  have r1 := rd_val R hx h1
  have bnd : ∀ {l h len cap : Nat}, (optNat LO 0).run S = some l → (optNat HI len).run S = some h → l ≤ h → h ≤ len → len ≤ cap → (Instr.sliceBounds true len cap (lo.map a.eval) (hi.map a.eval) none).run P w = .ok (l, h, cap) w :=
    fun h3 h5 g1 g2 g3 => sliceBounds_run ((optNat_run R hlo hlo0 h3).imp (fun h => ⟨by rw [h.1]; rfl, h.2⟩) (fun ⟨x, k, h1, h2⟩ => ⟨k, by rw [h1]; simp [h2]⟩))
      ((optNat_run R hhi hhi0 h5).imp (fun h => ⟨by rw [h.1]; rfl, h.2⟩) (fun ⟨x, k, h1, h2⟩ => ⟨k, by rw [h1]; simp [h2]⟩)) g1 g2 g3
  have ex : ∀ {b : Option Addr} {len cap l h : Nat}, a.eval x = .slice b len cap → mx = none → (optNat LO 0).run S = some l → (optNat HI len).run S = some h → l ≤ h → h ≤ len → len ≤ cap →
      (execOp a.eval o).run P w = .ok (.value (.slice (if cap = l then b else b.map (·.add (l * sz0))) (h - l) (cap - l))) w := by
    intro b len cap l h hb hm h3 h5 g1 g2 g3
    have hbd := bnd h3 h5 g1 g2 g3
    have : (Instr.sliceAt t (a.eval x) (lo.map a.eval) (hi.map a.eval) (mx.map a.eval)).run P w = .ok (.slice (if cap = l then b else b.map (·.add (l * sz0))) (h - l) (cap - l)) w := by
      rw [hb, hm]
      simp [Instr.sliceAt, Instr.slice, run_underlying ht, hbd, run_sizeOf' hs]
    simp [execOp, ho, this]
  split at h2
  · cases h2
  · rename_i t' sz rows hno
    obtain ⟨l, h3, h4⟩ := Q.run_bind_some h2
    clear h2
    obtain ⟨h, h5, h6⟩ := Q.run_bind_some h4
    clear h4
    obtain ⟨hg, h7⟩ := Q.run_guard_some h6
    clear h6
    simp only [Bool.and_eq_true, decide_eq_true_eq, Bool.or_eq_true, beq_iff_eq, List.isEmpty_iff] at hg
    obtain ⟨⟨hsz0, hg1⟩, hg2⟩ := hg
    have hvd := r1.one_inv
    have hplain : ∃ u, a.eval x = u ∧ RepP w L (.sl t' sz rows) u := by
      refine ⟨_, rfl, ?_⟩
      generalize a.eval x = u at hvd
      cases hvd with
      | d hd =>
        cases hd with
        | plain hp => exact hp
        | ownE => simp at hno
        | own => simp at hno
    obtain ⟨u, hu, hp⟩ := hplain
    split at h7
    · -- no third bound
      have hm : mx = none := by
        cases mx with
        | none => rfl
        | some m => obtain ⟨y, hy, _⟩ := hmx m rfl; cases hy
      obtain rfl := Q.run_pure_some h7
      cases hp with
      | nil =>
        have hl0 : l = 0 := by simp at hg2; omega
        have hh0 : h = 0 := by simpa using hg2
        subst hl0; subst hh0
        refine opVal R hd (v := .slice none 0 0) ?_ (.one (.d (.plain (by simpa using RepP.nil))))
        have := ex hu hm h3 h5 (Nat.le_refl _) (Nat.le_refl _) (Nat.le_refl _)
        simpa using this
      | @plE _ ad cap =>
        have hl0 : l = 0 := by simp at hg2; omega
        have hh0 : h = 0 := by simpa using hg2
        subst hl0; subst hh0
        refine opVal R hd (v := .slice (if cap = 0 then some ad else (some ad).map (·.add (0 * sz0))) 0 (cap - 0)) ?_ (.one (.d (.plain (by split <;> simpa using RepP.plE))))
        exact ex hu hm h3 h5 (Nat.le_refl _) (Nat.le_refl _) (Nat.zero_le _)
      | @pl sz rows B o' cap cur e' fz val hne hsz hcapp hL hB hlen hvv hrr =>
        obtain rfl : sz = sz0 := hsz0.resolve_right hne
        refine opVal R hd (ex hu hm h3 h5 hg1 hg2 hcapp) (.one (.d (.plain ?_)))
        by_cases hlh : h = l
        · rw [hlh, Nat.sub_self, List.take_zero]; split <;> exact .plE
        · have hcl : cap ≠ l := by omega
          have hll : ((rows.drop l).take (h - l)).length = h - l := by rw [List.length_take, List.length_drop]; omega
          rw [if_neg hcl]
          show RepP w L _ (.slice (some ((⟨B, o', none⟩ : Addr).add (l * sz))) (h - l) (cap - l))
          rw [add_off]
          have hcell : ∀ i c y, cellOf ((rows.drop l).take (h - l)) i c = some y → cellOf rows (l + i) c = some y := by
            intro i c y hy
            obtain ⟨rr, k1, k2⟩ := cellOf_some.1 hy
            have hil : i < h - l := by
              have := (List.getElem?_eq_some_iff.1 k1).1
              rw [hll] at this; exact this
            rw [List.getElem?_take_of_lt hil, List.getElem?_drop] at k1
            exact cellOf_some.2 ⟨rr, k1, k2⟩
          suffices hsuf : RepP w L (.sl (.im false) sz ((rows.drop l).take (h - l))) (.slice (some ⟨B, o' + l * sz, none⟩) ((rows.drop l).take (h - l)).length (cap - l)) by rwa [hll] at hsuf
          refine .pl (fun i c => val (l + i) c) ?_ hsz (by omega) hL hB ?_ ?_ ?_
          · intro e0; rw [e0] at hll; simp at hll; omega
          · intro r1 hr1
            exact hlen r1 (List.mem_of_mem_drop (List.mem_of_mem_take hr1))
          · intro i c y hy
            have := hvv _ _ _ (hcell i c y hy)
            rw [Nat.add_mul] at this
            rw [show o' + l * sz + i * sz + c = o' + (l * sz + i * sz) + c by omega]
            exact this
          · intro i c y hy
            exact hrr _ _ _ (hcell i c y hy)
    · -- a third bound: nothing is left
      rename_i mX
      obtain ⟨vm, h8, h9⟩ := Q.run_bind_some h7
      clear h7
      obtain ⟨mm, h10, h11⟩ := Q.run_ofO_some h9
      clear h9
      obtain ⟨hg3, h12⟩ := Q.run_guard_some h11
      clear h11
      simp only [Bool.and_eq_true, beq_iff_eq] at hg3
      obtain ⟨⟨rfl, rfl⟩, rfl⟩ := hg3
      obtain rfl := Q.run_pure_some h12
      cases hmxe : mx with
      | none => cases hmx0 hmxe
      | some m =>
        obtain ⟨y, hy, hym⟩ := hmx m hmxe
        cases hy
        obtain ⟨km, hkm⟩ := asNat_inv (rd_val R hym h8) h10
        obtain ⟨ad, len, cap, hue, hres⟩ : ∃ ad len cap, u = .slice ad len cap ∧ RepD w L ⟨.h 0, 0, []⟩ (.sl t'.emptied sz []) (.slice ad 0 0) := by
          cases hp with
          | nil => exact ⟨_, _, _, rfl, .plain .nil⟩
          | plE => exact ⟨_, _, _, rfl, .ownE⟩
          | pl => exact ⟨_, _, _, rfl, .ownE⟩
        have hiv : ∃ k, hi.map a.eval = some (.int k 0) := by
          rcases optNat_run R hhi hhi0 h5 with ⟨h, _⟩ | ⟨x, k, h1, h2⟩
          · exact absurd h (hmxh (by rw [hmxe]; simp))
          · exact ⟨k, by rw [h1]; simp [h2]⟩
        obtain ⟨kh, hkh⟩ := hiv
        have hlv : (lo.map a.eval = none) ∨ ∃ k, lo.map a.eval = some (.int k 0) := by
          rcases optNat_run R hlo hlo0 h3 with ⟨h, _⟩ | ⟨x, k, h1, h2⟩
          · exact .inl (by rw [h]; rfl)
          · exact .inr ⟨k, by rw [h1]; simp [h2]⟩
        refine opVal R hd (v := .slice ad 0 0) ?_ (.one (.d hres))
        have : (Instr.sliceAt t (a.eval x) (lo.map a.eval) (hi.map a.eval) (mx.map a.eval)).run P w = .ok (.slice ad 0 0) w := by
          rw [hu, hue, hkh, hmxe]
          rcases hlv with hlv | ⟨kl, hlv⟩ <;> rw [hlv] <;>
            simp [Instr.sliceAt, Instr.slice, run_underlying ht, Instr.sliceBounds, Instr.sliceBound, asIntOf, hkm, run_sizeOf' hs]
        simp [execOp, ho, this]
  · rename_i pl g sz off len
    obtain ⟨l, h3, h4⟩ := Q.run_bind_some h2
    clear h2
    obtain ⟨h, h5, h6⟩ := Q.run_bind_some h4
    clear h4
    obtain ⟨hg, h7⟩ := Q.run_guard_some h6
    clear h6
    simp only [Bool.and_eq_true, decide_eq_true_eq, beq_iff_eq, Option.isNone_iff_eq_none] at hg
    obtain ⟨⟨⟨⟨rfl, hg1⟩, hg2⟩, hmn⟩, hg8⟩ := hg
    have hm : mx = none := by
      cases mx with
      | none => rfl
      | some m => obtain ⟨y, hy, _⟩ := hmx m rfl; rw [hmn] at hy; cases hy
    obtain rfl := Q.run_pure_some h7
    cases r1.one_inv with
    | view hv0 hh hgl hV =>
      obtain ⟨b, cap, hb, hlc, hbs⟩ := hv0
      refine opVal R hd (ex hb hm h3 h5 hg1 hg2 hlc) (.one (.view ?_ hh hgl (fun he => ?_)))
      · refine ⟨_, _, rfl, by omega, ?_⟩
        obtain ⟨ad, rfl⟩ := Option.isSome_iff_exists.1 hbs
        split <;> rfl
      · rcases hV he with ⟨h0, a0, hval⟩ | ⟨B, o', cap', cur, e', fz, hval, hsz, hL, hB, hfz, hlc', hroom, h8v⟩
        · rw [hb] at hval
          simp only [Value.slice.injEq] at hval
          obtain ⟨rfl, _, rfl⟩ := hval
          have : l = 0 := by omega
          subst this
          exact .inl ⟨by omega, a0, by simp; omega⟩
        · rw [hb] at hval
          simp only [Value.slice.injEq, true_and] at hval
          obtain ⟨rfl, rfl⟩ := hval
          by_cases hcl : cap = l
          · subst hcl
            exact .inl ⟨by omega, _, by rw [if_pos rfl, show h - cap = 0 from by omega, Nat.sub_self]⟩
          · right
            refine ⟨B, o', cap - l, cur, e', fz, ?_, hsz, hL, hB, hfz, by omega, ?_, fun q1 q2 => h8v (by omega) (by simp only [Bool.or_eq_true, decide_eq_true_eq, beq_iff_eq] at hg8; omega)⟩
            · rw [if_neg hcl]
              show Value.slice (some ((⟨B, o' + off * sz, none⟩ : Addr).add (l * sz))) _ _ = _
              rw [add_off, Nat.add_mul, Nat.add_assoc]
            · rw [Nat.add_mul]
              have : (cap - l) * sz + l * sz = cap * sz := by rw [← Nat.add_mul, Nat.sub_add_cancel (by omega)]
              omega
  · cases h2
end
end
section
section
variable {nm : FuncId → Option Nat} {N : Nat} {S S0 : St} {a : Act} {w w0 : World} {L L0 : LabF} {P : Program} {o : Oper} {Cl : Oracle} {d : Nat} {r : V × List Wr} {ws : List Wr}
theorem mapM_inv {α β : Type} {f : α → Option β} : ∀ (l : List α) {r : List β}, l.mapM f = some r → r.length = l.length ∧ ∀ (j : Nat) y, r[j]? = some y → ∃ x, l[j]? = some x ∧ f x = some y
  | [], r, h => by
    have : r = [] := by simpa using h.symm
    subst this
    exact ⟨rfl, fun j y hy => by simp at hy⟩
  | x :: l, r, h => by
    rw [List.mapM_cons] at h
    cases hx : f x with
    | none => simp [hx] at h
    | some y =>
      cases hl : l.mapM f with
      | none => simp [hx, hl] at h
      | some r' =>
        simp [hx, hl] at h
        subst h
        obtain ⟨h1, h2⟩ := mapM_inv l hl
        refine ⟨by simp [h1], fun j z hz => ?_⟩
        cases j with
        | zero => simp at hz; subst hz; exact ⟨x, rfl, hx⟩
        | succ j => obtain ⟨x', g1, g2⟩ := h2 j z (by simpa using hz); exact ⟨x', by simpa using g1, g2⟩
def ConstC (c : C) (u : Value) : Prop := (∃ sz, constC sz u = some c)
theorem ConstC.rep {c : C} {u : Value} (h : ConstC c u) (w : World) (L : LabF) (γ : Key → Nat) (k : Key) (j : Nat) : RepC nm w L γ k j c u := by
  obtain ⟨sz, h⟩ := h; exact (constC_rep h).1 w L γ k j
theorem ConstC.own {c : C} {u : Value} (h : ConstC c u) : c.own = false := by
  obtain ⟨sz, h⟩ := h; exact (constC_rep (nm := fun _ => none) h).2
theorem zeroC_inv {t : TypeId} {zs : List C} (h : zeroC P t = some zs) : ∃ i z, P.info? t = some i ∧ i.zero = some z ∧ z.cells.size = zs.length ∧ z.cells.size = i.size ∧ ∀ (j : Nat) c u, zs[j]? = some c → z.cells[j]? = some u → ConstC c u := by
  unfold zeroC at h
  split at h
  · rename_i i l h1 h2
    split at h
    · rename_i z hz
      split at h
      · rename_i hc
        obtain ⟨g1, g2⟩ := mapM_inv _ h
        refine ⟨i, z, h1, hz, by rw [g1]; simp [← hc.1], hc.2, ?_⟩
        intro j c u hj hu
        obtain ⟨x, k1, k2⟩ := g2 j c hj
        rw [List.getElem?_zip_eq_some] at k1
        have : x.2 = u := by
          have := k1.2
          rw [Array.getElem?_toList, hu] at this
          simpa using this.symm
        rw [this] at k2
        exact ⟨_, k2⟩
      · cases h
    · cases h
  · cases h
theorem boxed_rep (M : Mid nm N S0 w0 L0 ws a w L) {m : Nat} {cs : List C} {vs : Array Value} {e : TypeId} (hl : cs.length = vs.size)
    (hx : ∀ (j : Nat) x v, cs[j]? = some x → vs[j]? = some v → RepC nm w L (S0.wrs ws).γ (.h m) j x v) (hr : (boxed d cs ws).run S0 = some r) {dst : Option Nat} (hd : ∀ d, dst = some d → d < N) :
    Aft nm N S0 w0 L0 a dst r.1 r.2 (.pointer (some ⟨w.heap.size, 0, none⟩)) (w.alloc (.cells vs e)) := by
  unfold boxed at hr
  rw [Q.run_bind, atP_run, Option.bind_some] at hr
  obtain ⟨hg, h2⟩ := Q.run_guard_some hr
  clear hr
  obtain rfl := Q.run_pure_some h2
  have hn : boxN ((S0.wrs ws).E (.r (.l d))) = 0 ∨ boxN ((S0.wrs ws).E (.r (.l d))) = cs.length := by
    simpa using hg
  obtain ⟨R, hm, _⟩ := M.rel.newBox (r := .l d) (cs := cs) (vs := vs) (e := e) rfl (by simp) hl hn hx
  have hγ : S0.γ (.r (.l d)) + 1 ≤ (S0.wrs (cellWrs (.l d) 0 cs ({ k := .r (.l d), v := sizeV cs.length } :: ws))).γ (.r (.l d)) := by
    refine Nat.le_trans ?_ (cellWrs_E S0 (.l d) cs 0 ({ k := .r (.l d), v := sizeV cs.length } :: ws) (.r (.l d))).2.2.2
    simp only [St.wrs, St.γ_wr, if_true]
    have := St.γ_wrs_le S0 ws (.r (.l d))
    simp; exact this
  exact R.aft (M.mono.trans hm) hd (.one (.ptr (k := .h 0) ⟨_, rfl⟩ hγ (fun _ => ⟨_, 0, boxL_new, rfl⟩)))
theorem ev_alloc (R : Rel nm N S a w L) (hd : ∀ d, o.dst = some d → d < N) {t : TypeId} {zs : List C} (ho : o.op = .alloc t) (hz : zeroC P t = some zs)
    (hr : (evOp Cl d (.alloc zs)).run S = some r) : OpsTo P a w o (Aft nm N S w L a o.dst r.1 r.2) := by
  simp only [evOp] at hr
  obtain ⟨i, z, h1, h2, h3, h4, h5⟩ := zeroC_inv hz
  refine .val (v := .pointer (some ⟨w.heap.size, 0, none⟩)) (w' := w.alloc (.cells z.cells t)) ?_ (boxed_rep (Mid.init R) (m := 0) h3.symm (fun j x v hx hv => (h5 j x v hx hv).rep _ _ _ _ _) hr hd)
  have : (Instr.alloc t true (.tuple #[])).run P w = .ok (.pointer (some ⟨w.heap.size, 0, none⟩)) (w.alloc (.cells z.cells t)) := by
    simp [Instr.alloc, zeroValue, typeInfo, h1, h2, newVar, newRow]
  simp [execOp, ho, this]
theorem st_live {c : C} {r : C × List Wr} (h : (st ws c).run S = some r) : c ≠ .dead := by
  rintro rfl
  simp [st] at h
theorem stL_live : ∀ (cs : List C) {ws : List Wr} {r : List C × List Wr}, (stL ws cs).run S = some r → ∀ c ∈ cs, c ≠ .dead
  | [], _, _, _, c, hc => by simp at hc
  | x :: cs, ws, r, h, c, hc => by
    simp only [stL] at h
    obtain ⟨r1, h1, h2⟩ := Q.run_bind_some h
    obtain ⟨r2, h3, _⟩ := Q.run_bind_some h2
    rcases List.mem_cons.1 hc with rfl | hc
    · exact st_live h1
    · exact stL_live cs h3 c hc
theorem LimV.cells {γ0 γ : Key → Nat} (hs : Step w0 w L0 L γ0 γ) {m : Nat} {x : V} {v : Value} (h : LimV nm w0 L0 γ0 w L γ m x v) (hx : ∀ vs, x ≠ .tup vs) (hl : ∀ c ∈ x.cells, c ≠ .dead) :
    x.cells.length = v.cells.size ∧ ∀ (j : Nat) c u, x.cells[j]? = some c → v.cells[j]? = some u → LimC nm w0 L0 γ0 w L γ m j c u := by
  cases x with
  | one c =>
    have hc : LimC nm w0 L0 γ0 w L γ m 0 c v := h
    have h1 := (hc.rep hs).oneCell (hl c (by simp [V.cells]))
    have hv : v.cells = #[v] := by cases v <;> first | rfl | simp [Value.oneCell'] at h1
    rw [hv]
    refine ⟨rfl, fun j c' u h2 h3 => ?_⟩
    cases j with
    | zero => simp [V.cells] at h2 h3; subst h2; subst h3; exact hc
    | succ j => simp [V.cells] at h2
  | agg cs =>
    obtain ⟨vs, rfl, h1, h2⟩ := h
    exact ⟨h1, h2⟩
  | tup vs => exact absurd rfl (hx vs)
theorem wholesome {v : V} {n : Nat} (hn : n ≠ 0) {cs : List C} (h : cs.length = n) (hv : cs.length = v.cells.length) : ∀ vs, v ≠ .tup vs := by
  rintro vs rfl
  have : cs.length = 0 := hv
  omega
theorem part_rep (M : Mid nm N S0 w0 L0 ws a w L) (R0 : Rel nm N S0 a w0 L0) {m : Nat} (hm : FreeH L m) {x : Operand} {X : Abs.X} (hx : OpRel nm X x) (hok : X.okC = true) {v : V} {ws1 : List Wr} (h1 : (tk ws X).run S0 = some (v, ws1)) {cs : List C} {ws2 : List Wr}
    (h2 : (stL ws1 v.cells).run S0 = some (cs, ws2)) (hn : cs.length ≠ 0) :
    ∃ L', Out nm N S0 w0 L0 ws ws2 a w L L' (fun q => q.k ≠ .h m) m ∧ cs.length = (a.eval x).cells.size ∧
      ∀ (j : Nat) c u, cs[j]? = some c → (a.eval x).cells[j]? = some u → RepC nm w L' (S0.wrs ws2).γ (.h m) j c u := by
  obtain ⟨L1, O1, V1⟩ := tk_rep M R0 hm hok hx h1
  have hlen : cs.length = v.cells.length := by
    have : ∀ (l : List C) (ws : List Wr) (r : List C × List Wr), (stL ws l).run S0 = some r → r.1.length = l.length := by
      intro l
      induction l with
      | nil => intro ws r h; simp only [stL] at h; obtain rfl := Q.run_pure_some h; rfl
      | cons y l ih =>
        intro ws r h
        simp only [stL] at h
        obtain ⟨r1, g1, g2⟩ := Q.run_bind_some h
        obtain ⟨r2, g3, g4⟩ := Q.run_bind_some g2
        obtain rfl := Q.run_pure_some g4
        simp [ih _ _ g3]
    exact this _ _ _ h2
  have hnt : ∀ vs, v ≠ .tup vs := wholesome hn rfl hlen
  obtain ⟨c1, c2⟩ := V1.cells O1.mid.stp hnt (stL_live _ h2)
  obtain ⟨L2, O2, l2, R2⟩ := stL_rep (m := m) v.cells O1.mid 0 (fun j => (a.eval x).cells.getD j undef) (fun j c hc => by
    have hj : j < (a.eval x).cells.size := by rw [← c1]; exact (List.getElem?_eq_some_iff.1 hc).1
    have := c2 j c _ hc (Array.getElem?_eq_getElem hj)
    simpa [Array.getD, hj] using this) h2
  refine ⟨L2, (O1.weaken (fun _ _ => trivial)).trans (O2.weaken (fun q hq h => hq h.1)), by rw [← c1]; exact l2, ?_⟩
  intro j c u hc hu
  have := R2 j c hc
  simpa [Array.getD_eq_getD_getElem?, hu] using this
theorem ev_box (R : Rel nm N S a w L) (hH : NoH L) (hd : ∀ d, o.dst = some d → d < N) {t : TypeId} {n : Nat} {x : Operand} {X : Abs.X} (hx : OpRel nm X x) (hok : X.okC = true) (ho : o.op = .box t x) (hn : n ≠ 0)
    (hr : (evOp Cl d (.box n X)).run S = some r) : OpsTo P a w o (Aft nm N S w L a o.dst r.1 r.2) := by
  simp only [evOp] at hr
  obtain ⟨⟨v, ws1⟩, h1, h2⟩ := Q.run_bind_some hr
  clear hr
  obtain ⟨⟨cs, ws2⟩, h3, h4⟩ := Q.run_bind_some h2
  clear h2
  obtain ⟨hg, h5⟩ := Q.run_guard_some h4
  clear h4
  simp only [beq_iff_eq] at hg
  obtain ⟨L', O, hl, hc⟩ := part_rep (Mid.init R) R (m := 0) (fun B q o hB e => by have := hH B q o hB; rw [e] at this; simp [Key.isPl] at this) hx hok h1 h3 (by omega)
  refine .val (v := .pointer (some ⟨w.heap.size, 0, none⟩)) (w' := w.alloc (.cells (a.eval x).cells t)) ?_ (boxed_rep O.mid hl hc h5 hd)
  have : (Instr.box t (a.eval x)).run P w = .ok (.pointer (some ⟨w.heap.size, 0, none⟩)) (w.alloc (.cells (a.eval x).cells t)) := by
    simp [Instr.box, newVar, newRow]
  simp [execOp, ho, this]
end
end
section
section
variable {nm : FuncId → Option Nat} {N : Nat} {S S0 : St} {a : Act} {w w0 : World} {L L0 : LabF} {P : Program} {o : Oper} {Cl : Oracle} {d : Nat} {r : V × List Wr} {ws : List Wr}
theorem Mid.relabH (M : Mid nm N S0 w0 L0 ws a w L) {f : Place → Option Place} (hfix : ∀ q : Place, q.k.isPl = true → f q = some q) (hback : ∀ q t, f q = some t → t.k.isPl = true → q = t) (hinj : ∀ q q' t, f q = some t → f q' = some t → q = q') :
    Mid nm N S0 w0 L0 ws a w (relab f L) ∧ Step w w L (relab f L) (S0.wrs ws).γ (S0.wrs ws).γ := by
  have hst : Step w w L (relab f L) (S0.wrs ws).γ (S0.wrs ws).γ :=
    ⟨fun B hB => ⟨relab_imm.2 hB, rfl⟩, fun _ => Nat.le_refl _, fun B q o hq _ hB => ⟨relab_of_row hB (hfix q hq), fun cur e fz h => ⟨cur, h, rfl⟩⟩, fun _ _ _ _ _ _ _ => rfl, fun B r o _ hB => relab_box.2 hB⟩
  refine ⟨⟨M.rel.relabH hfix hinj, M.stp.trans hst, M.mono.trans (relab_mono f), ?_, M.heap, M.inj0, fun B r o hB => relab_box.2 (M.boxes B r o hB)⟩, hst⟩
  intro B q o hq hB
  obtain ⟨q0, h1, h2⟩ := relab_row hB
  rw [hback q0 q h2 hq] at h1
  exact M.rows B q o hq h1
theorem RepC.relabTo {f : Place → Option Place} {k k' : Key} {j j' : Nat} {γ : Key → Nat} {c : C} {v : Value} (hst : Step w w L (relab f L) γ γ) (h : RepC nm w L γ k j c v) (hf : ∀ p, f ⟨k, j, p⟩ = some ⟨k', j', p⟩) (hkk : (∃ r c, k = .b r c) → ∃ r c, k' = .b r c := by first | exact fun h => h | exact fun _ => ⟨_, _, rfl⟩ | (rintro ⟨r, c, h⟩; cases h; done)) : RepC nm w (relab f L) γ k' j' c v := by
  refine h.step hst ?_ (hkk := hkk)
  intro B q o h1 h2 hL
  refine ⟨relab_of_row hL ?_, rfl⟩
  have := hf q.p
  rw [← h1, ← h2] at this
  exact this
def partTo (off n : Nat) : Place → Option Place := fun q =>
  if q.k = .h 1 then (if q.j < n then some ⟨.h 0, off + q.j, q.p⟩ else none)
  else if q.k = .h 0 then (if off ≤ q.j ∧ q.j < off + n then none else some q)
  else some q
theorem partTo_cases {off n : Nat} {q t : Place} (h : partTo off n q = some t) : (q.k = .h 1 ∧ q.j < n ∧ t = ⟨.h 0, off + q.j, q.p⟩) ∨ (q.k = .h 0 ∧ ¬ (off ≤ q.j ∧ q.j < off + n) ∧ t = q) ∨ (q.k ≠ .h 1 ∧ q.k ≠ .h 0 ∧ t = q) := by
  unfold partTo at h
  split at h
  · split at h
    · simp only [Option.some.injEq] at h; exact .inl ⟨‹_›, ‹_›, h.symm⟩
    · cases h
  · split at h
    · split at h
      · cases h
      · simp only [Option.some.injEq] at h; exact .inr (.inl ⟨‹_›, ‹_›, h.symm⟩)
    · simp only [Option.some.injEq] at h; exact .inr (.inr ⟨‹_›, ‹_›, h.symm⟩)
theorem partTo_inj {off n : Nat} {q q' t : Place} (h1 : partTo off n q = some t) (h2 : partTo off n q' = some t) : q = q' := by
  rcases partTo_cases h1 with ⟨a1, a2, a3⟩ | ⟨a1, a2, a3⟩ | ⟨a1, a2, a3⟩ <;> rcases partTo_cases h2 with ⟨b1, b2, b3⟩ | ⟨b1, b2, b3⟩ | ⟨b1, b2, b3⟩
  · rw [a3] at b3
    simp only [Place.mk.injEq, true_and] at b3
    obtain ⟨k, j, p⟩ := q; obtain ⟨k', j', p'⟩ := q'
    simp only at *
    rw [a1, b1, b3.2, show j = j' by omega]
  · exact absurd (by rw [← b3, a3]; simp; omega) b2
  · exact absurd (by rw [← b3, a3]) b2
  · exact absurd (by rw [← a3, b3]; simp; omega) a2
  · rw [← a3, ← b3]
  · exact absurd (by rw [← b3, a3]; exact a1) b2
  · exact absurd (by rw [← a3, b3]) a2
  · exact absurd (by rw [← a3, b3]; exact b1) a2
  · rw [← a3, ← b3]
theorem partTo_fix {off n : Nat} {q : Place} (h : q.k.isPl = true) : partTo off n q = some q := by
  unfold partTo
  rw [if_neg (fun e => by rw [e] at h; simp [Key.isPl] at h), if_neg (fun e => by rw [e] at h; simp [Key.isPl] at h)]
theorem partTo_back {off n : Nat} {q t : Place} (h : partTo off n q = some t) (ht : t.k.isPl = true) : q = t := by
  rcases partTo_cases h with ⟨_, _, rfl⟩ | ⟨_, _, h⟩ | ⟨_, _, h⟩
  · simp [Key.isPl] at ht
  · exact h.symm
  · exact h.symm
def upd (cells : Array Value) (off : Nat) (vs : Array Value) : Array Value := vs.zipIdx.foldl (fun cs (c, j) => cs.setIfInBounds (off + j) c) cells
theorem upd_list (off : Nat) : ∀ (l : List Value) (j0 : Nat) (cells : Array Value), ((l.zipIdx j0).foldl (fun cs (c, j) => cs.setIfInBounds (off + j) c) cells).size = cells.size ∧
    ∀ k, k < cells.size → ((l.zipIdx j0).foldl (fun cs (c, j) => cs.setIfInBounds (off + j) c) cells)[k]? = if off + j0 ≤ k ∧ k < off + j0 + l.length then l[k - (off + j0)]? else cells[k]?
  | [], j0, cells => ⟨rfl, fun k hk => by simp; intro h1 h2; omega⟩
  | v :: l, j0, cells => by
    obtain ⟨h1, h2⟩ := upd_list off l (j0 + 1) (cells.setIfInBounds (off + j0) v)
    simp only [List.zipIdx_cons, List.foldl_cons]
    refine ⟨by rw [h1]; simp, fun k hk => ?_⟩
    rw [h2 k (by simpa using hk)]
    by_cases hk1 : off + (j0 + 1) ≤ k ∧ k < off + (j0 + 1) + l.length
    · rw [if_pos hk1, if_pos ⟨by omega, by simp; omega⟩, show k - (off + j0) = (k - (off + (j0 + 1))) + 1 by omega, List.getElem?_cons_succ]
    · rw [if_neg hk1]
      by_cases hk2 : k = off + j0
      · subst hk2
        rw [if_pos ⟨Nat.le_refl _, by simp⟩, Nat.sub_self]
        simp [Array.getElem?_setIfInBounds, hk]
      · rw [Array.getElem?_setIfInBounds_ne (fun e => hk2 e.symm), if_neg (by simp; omega)]
theorem upd_spec (cells : Array Value) (off : Nat) (vs : Array Value) : (upd cells off vs).size = cells.size ∧ ∀ k, k < cells.size → (upd cells off vs)[k]? = if off ≤ k ∧ k < off + vs.size then vs[k - off]? else cells[k]? := by
  have := upd_list off vs.toList 0 cells
  unfold upd
  rw [← Array.foldl_toList, Array.toList_zipIdx]
  simpa using this
theorem splice_get {α : Type} {l : List α} {off : Nat} {cs : List α} (h : off + cs.length ≤ l.length) (k : Nat) : (splice l off cs)[k]? = if off ≤ k ∧ k < off + cs.length then cs[k - off]? else l[k]? := by
  unfold splice
  have h1 : (l.take off).length = off := by rw [List.length_take]; omega
  by_cases hk : k < off
  · rw [List.append_assoc, List.getElem?_append_left (by omega), List.getElem?_take_of_lt hk, if_neg (by omega)]
  · by_cases hk2 : k < off + cs.length
    · rw [List.append_assoc, List.getElem?_append_right (by omega), h1, List.getElem?_append_left (by omega), if_pos ⟨by omega, hk2⟩]
    · rw [List.getElem?_append_right (by rw [List.length_append, h1]; omega), List.length_append, h1, List.getElem?_drop, if_neg (by omega)]
      congr 1; omega
theorem splice_length {α : Type} {l : List α} {off : Nat} {cs : List α} (h : off + cs.length ≤ l.length) : (splice l off cs).length = l.length := by
  simp [splice]; omega
def PartsOk (nm : FuncId → Option Nat) (place : Nat → Option (Nat × Nat)) : List (Nat × Nat × Abs.X) → List (Nat × Operand) → Prop
  | [], [] => True
  | (off, n, X) :: t, (i, x) :: t' => place i = some (off, n) ∧ n ≠ 0 ∧ OpRel nm X x ∧ X.okC = true ∧ PartsOk nm place t t'
  | _, _ => False
theorem evParts_rep (R0 : Rel nm N S0 a w0 L0) {place : Nat → Option (Nat × Nat)} : ∀ (parts : List (Nat × Nat × Abs.X)) (ps : List (Nat × Operand)) {ws : List Wr} {L : LabF} {cells : List C} {vs : Array Value} (M : Mid nm N S0 w0 L0 ws a w L) (hf : FreeH L 1)
    (hl : cells.length = vs.size) (hc : ∀ (j : Nat) c u, cells[j]? = some c → vs[j]? = some u → RepC nm w L (S0.wrs ws).γ (.h 0) j c u) (hp : PartsOk nm place parts ps) {r : List C × List Wr} (hr : (evParts ws cells parts).run S0 = some r),
    ∃ L' vs', Instr.fill place vs (ps.map fun p => (p.1, a.eval p.2)) = some vs' ∧ Mid nm N S0 w0 L0 r.2 a w L' ∧ r.1.length = vs'.size ∧ ∀ (j : Nat) c u, r.1[j]? = some c → vs'[j]? = some u → RepC nm w L' (S0.wrs r.2).γ (.h 0) j c u
  | [], [], ws, L, cells, vs, M, hf, hl, hc, hp, r, hr => by
    simp only [evParts] at hr
    obtain rfl := Q.run_pure_some hr
    exact ⟨L, vs, rfl, M, hl, hc⟩
  | (off, n, X) :: parts, (i, x) :: ps, ws, L, cells, vs, M, hf, hl, hc, hp, r, hr => by
    obtain ⟨hpl, hn, hx, hok, hp⟩ := hp
    simp only [evParts] at hr
    obtain ⟨⟨v, ws1⟩, h1, h2⟩ := Q.run_bind_some hr
    clear hr
    obtain ⟨⟨cs, ws2⟩, h3, h4⟩ := Q.run_bind_some h2
    clear h2
    obtain ⟨hg, h5⟩ := Q.run_guard_some h4
    clear h4
    simp only [Bool.and_eq_true, beq_iff_eq, decide_eq_true_eq] at hg
    obtain ⟨hcl, hoff⟩ := hg
    obtain ⟨L1, O1, hl1, hc1⟩ := part_rep M R0 hf hx hok h1 h3 (by omega)
    obtain ⟨M2, hst⟩ := O1.mid.relabH (f := partTo off n) (fun q hq => partTo_fix hq) (fun q t h ht => partTo_back h ht) (fun q q' t a b => partTo_inj a b)
    have hf2 : FreeH (relab (partTo off n) L1) 1 := by
      intro B q o hB e
      obtain ⟨q0, _, h2⟩ := relab_row hB
      rcases partTo_cases h2 with ⟨_, _, h⟩ | ⟨h6, _, h⟩ | ⟨h6, _, h⟩
      · rw [h] at e; simp at e
      · rw [h, h6] at e; simp at e
      · rw [h] at e; exact h6 e
    obtain ⟨u1, u2⟩ := upd_spec vs off (a.eval x).cells
    have hle : off + cs.length ≤ cells.length := by omega
    obtain ⟨L', vs', g1, g2, g3, g4⟩ := evParts_rep R0 parts ps (cells := splice cells off cs) (vs := upd vs off (a.eval x).cells) M2 hf2 (by rw [splice_length hle, u1]; exact hl) (by
      intro j c u hj hu
      rw [splice_get hle] at hj
      have hju : j < vs.size := by rw [← u1]; exact (Array.getElem?_eq_some_iff.1 hu).1
      rw [u2 j hju, ← hl1] at hu
      by_cases hin : off ≤ j ∧ j < off + cs.length
      · rw [if_pos hin] at hj hu
        have := RepC.relabTo (k' := .h 0) (j' := j) hst (hc1 (j - off) c u hj hu) (fun p => by
          simp only [partTo, if_true]; rw [if_pos (by omega), show off + (j - off) = j by omega])
        exact this
      · rw [if_neg hin] at hj hu
        have h0 := (hc j c u hj hu).keep O1.keep (fun p => by simp)
        exact RepC.relabTo hst h0 (fun p => by
          simp only [partTo]; rw [if_neg (by simp), if_pos trivial, if_neg (by omega)])) hp h5
    refine ⟨L', vs', ?_, g2, g3, g4⟩
    simp only [List.map_cons, Instr.fill, hpl]
    rw [if_neg (by simp; omega)]
    exact g1
  | [], _ :: _, _, _, _, _, _, _, _, _, hp, _, _ => hp.elim
  | (_, _, _) :: _, [], _, _, _, _, _, _, _, _, hp, _, _ => hp.elim
theorem run_mapM_list {α β : Type} {f : α → Sem β} {g : α → β} : ∀ (l : List α), (∀ x ∈ l, (f x).run P w = .ok (g x) w) → (l.mapM f).run P w = .ok (l.map g) w
  | [], _ => by simp
  | x :: l, h => by
    rw [List.mapM_cons]
    simp [h x (by simp), run_mapM_list l (fun y hy => h y (by simp [hy]))]
theorem ev_build (R : Rel nm N S a w L) (hH : NoH L) (hd : ∀ d, o.dst = some d → d < N) {t : TypeId} {fs : Array Field} {parts : Array (Nat × Operand)} {zs : List C} {ps : List (Nat × Nat × Abs.X)} (ho : o.op = .build t parts) (hz : zeroC P t = some zs) (ht : P.underlying t = some (.struct fs))
    (hall : ∀ f ∈ fs.toList, (szOf P f.type).isSome = true) (hp : PartsOk nm (fun i => (fs.map fun f => (f.offset, (szOf P f.type).getD 0))[i]?) ps parts.toList)
    (hr : (evOp Cl d (.build zs ps)).run S = some r) : OpsTo P a w o (Aft nm N S w L a o.dst r.1 r.2) := by
  simp only [evOp] at hr
  obtain ⟨⟨cs, ws1⟩, h1, h2⟩ := Q.run_bind_some hr
  clear hr
  obtain rfl := Q.run_pure_some h2
  obtain ⟨i, z, k1, k2, k3, k4, k5⟩ := zeroC_inv hz
  obtain ⟨L', vs', g1, g2, g3, g4⟩ := evParts_rep R ps parts.toList (Mid.init R) (fun B q o hB e => by have := hH B q o hB; rw [e] at this; simp [Key.isPl] at this) (cells := zs) (vs := z.cells) k3.symm
    (fun j c u hj hu => (k5 j c u hj hu).rep _ _ _ _ _) hp h1
  refine .val (v := .agg vs') (w' := w) ?_ (g2.rel.aft g2.mono hd (.agg g3 g4))
  have hm : (fs.mapM fun f => do pure (f.offset, ← sizeOf f.type) : Sem _).run P w = .ok (fs.map fun f => (f.offset, (szOf P f.type).getD 0)) w := by
    rw [Array.mapM_eq_mapM_toList]
    rw [Sem.run_map, run_mapM_list (g := fun f => (f.offset, (szOf P f.type).getD 0)) fs.toList (fun f hf => by
      obtain ⟨n, hn⟩ := Option.isSome_iff_exists.1 (hall f hf)
      simp [run_sizeOf' hn, hn])]
    simp only [Result.andThen_ok]
    congr 1
    apply Array.ext'
    simp
  have : (Instr.build t (parts.map fun (i, x) => (i, a.eval x))).run P w = .ok (.agg vs') w := by
    simp only [Instr.build, Sem.run_bind, zeroValue, typeInfo, run_program, k1, k2, Result.andThen_ok, Sem.run_pure, run_underlying ht, hm]
    have hpe : (parts.map fun (i, x) => (i, a.eval x)).toList = parts.toList.map fun p => (p.1, a.eval p.2) := by simp
    rw [hpe, g1]
    rfl
  simp [execOp, ho, this]
end
end
section
section
variable {nm : FuncId → Option Nat} {N : Nat} {S S0 : St} {a : Act} {w w0 : World} {L L0 : LabF} {P : Program} {o : Oper} {Cl : Oracle} {d : Nat} {r : V × List Wr} {ws : List Wr}
theorem Rel.newRowW {S : St} (h : Rel nm N S a w L) {m j : Nat} (hm : ∀ B o, L B ≠ some (.row ⟨.h m, j, []⟩ o)) {w' : World} {cur : Array Value} {e : TypeId} {fz : Nat × Nat} {rows : List (List D)} {val : Nat → Nat → Value} {sz cap : Nat}
    (hw : w'.heap[w.heap.size]? = some (.cells cur e fz)) (ho : ∀ B, B ≠ w.heap.size → w'.heap[B]? = w.heap[B]?) (hfz : unfroz cur.size fz) (hmo : w'.os = w.os ∧ w'.tape = w.tape ∧ w'.output = w.output ∧ w.heap.size ≤ w'.heap.size)
    (hsz : 0 < sz) (hlen : ∀ r ∈ rows, r.length = sz) (hcap : rows.length ≤ cap) (hroom : cap * sz ≤ cur.size) (hv : Lies rows sz 0 cur val) (hc : Cont w L ⟨.h m, j, []⟩ rows val) (hu8 : U8At rows e) :
    Rel nm N S a w' (L.put w.heap.size (.row ⟨.h m, j, []⟩ 0)) ∧ Mono w w' L (L.put w.heap.size (.row ⟨.h m, j, []⟩ 0)) ∧
      RepC nm w' (L.put w.heap.size (.row ⟨.h m, j, []⟩ 0)) S.γ (.h m) j (.d (.sl .own sz rows)) (.slice (some ⟨w.heap.size, 0, none⟩) rows.length cap) := by
  have hne : ∀ B l, L B = some l → B ≠ w.heap.size := fun B l hB e => by rw [e, h.dom.new] at hB; cases hB
  refine ⟨?_, ⟨hmo.1, hmo.2.1, hmo.2.2.1, hmo.2.2.2, fun B hB => ⟨by rw [LabF.put_other (hne B _ hB)]; exact hB, ho B (hne B _ hB)⟩, fun B hlt hB => ⟨by rw [LabF.put_other (by omega)]; exact hB, ho B (by omega)⟩, fun B i o hB => by rw [LabF.put_other (hne B _ hB)]; exact hB⟩, ?_⟩
  · refine h.grow (fun B l hB => ho B (hne B l hB)) (fun B l hB => by rw [LabF.put_other (hne B l hB)]; exact hB) ?_ ?_ ?_
    · intro B l hB
      by_cases he : B = w.heap.size
      · subst he; exact (Array.getElem?_eq_some_iff.1 hw).1
      · rw [LabF.put_other he] at hB
        exact heap_lt (h.dom B l hB) (ho B he)
    · intro B B' pl o o' h1 h2
      by_cases he : B = w.heap.size
      · by_cases he' : B' = w.heap.size
        · rw [he, he']
        · subst he
          rw [LabF.put_same] at h1
          rw [LabF.put_other he'] at h2
          simp only [Option.some.injEq, Lab.row.injEq] at h1
          rw [← h1.1] at h2
          exact absurd h2 (hm B' o')
      · rw [LabF.put_other he] at h1
        by_cases he' : B' = w.heap.size
        · subst he'
          rw [LabF.put_same] at h2
          simp only [Option.some.injEq, Lab.row.injEq] at h2
          rw [← h2.1] at h1
          exact absurd h1 (hm B o)
        · rw [LabF.put_other he'] at h2
          exact h.rowInj B B' pl o o' h1 h2
    · intro B B' r o o' h1 h2
      by_cases he : B = w.heap.size
      · subst he; rw [LabF.put_same] at h1; simp at h1
      · by_cases he' : B' = w.heap.size
        · subst he'; rw [LabF.put_same] at h2; simp at h2
        · rw [LabF.put_other he] at h1
          rw [LabF.put_other he'] at h2
          exact h.boxInj B B' r o o' h1 h2
  · refine .d (.own val hsz (LabF.put_same _ _ _) hw hfz hlen hcap (by omega) (by simpa [Lies] using hv) ?_ hu8)
    intro i c x hx
    exact RepD.move id (fun _ => True) (fun _ _ _ _ => trivial) (fun _ _ _ _ => rfl) (fun B hB => ⟨by rw [LabF.put_other (hne B _ hB)]; exact hB, ho B (hne B _ hB)⟩)
      (fun B q o _ hB => ⟨by rw [LabF.put_other (hne B _ hB)]; exact hB, ho B (hne B _ hB)⟩) (hc i c x hx) trivial
theorem dataL_inv : ∀ {l : List C} {r : List D}, dataL l = some r → l = r.map .d
  | [], r, h => by simp only [dataL, Option.some.injEq] at h; subst h; rfl
  | c :: l, r, h => by
    cases c with
    | d x =>
      simp only [dataL] at h
      cases hl : dataL l with
      | none => simp [hl] at h
      | some t => simp only [hl, Option.map_some, Option.some.injEq] at h; subst h; rw [dataL_inv hl]; rfl
    | _ => simp [dataL] at h
theorem ConstC.plain {x : D} {u : Value} (h : ConstC (.d x) u) (w : World) (L : LabF) : RepP w L x u := by
  have h1 := h.rep (nm := fun _ => none) w L (fun _ => 0) (.s 0) 0
  have h2 := h.own
  cases h1 with
  | d h1 =>
    cases h1 with
    | plain h1 => exact h1
    | ownE => simp [C.own] at h2
    | own => simp [C.own] at h2
theorem zero_rows {zs : List C} {row : List D} {z : Value} {n m : Nat} (hd : dataL zs = some row) (hz : z.cells.size = zs.length) (hc : ∀ (j : Nat) c u, zs[j]? = some c → z.cells[j]? = some u → ConstC c u) (hnm : n ≤ m) (hz0 : zs.length ≠ 0) :
    (∀ r ∈ List.replicate n row, r.length = zs.length) ∧ ∀ i c x, cellOf (List.replicate n row) i c = some x → ∃ u, (madeCells z.cells (m * zs.length))[i * zs.length + c]? = some u ∧ ConstC (.d x) u := by
  have hrow := dataL_inv hd
  have hrl : row.length = zs.length := by rw [hrow]; simp
  refine ⟨fun r hr => by rw [List.eq_of_mem_replicate hr, hrl], ?_⟩
  intro i c x hx
  obtain ⟨r, h1, h2⟩ := cellOf_some.1 hx
  have hi : i < n := by have := (List.getElem?_eq_some_iff.1 h1).1; simpa using this
  have hr : r = row := by
    rw [List.getElem?_replicate, if_pos hi] at h1
    exact (Option.some.inj h1).symm
  subst hr
  have hcl : c < zs.length := by rw [← hrl]; exact (List.getElem?_eq_some_iff.1 h2).1
  have hlt : i * zs.length + c < m * zs.length := idx_lt (by omega) hcl
  have hmod : (i * zs.length + c) % zs.length = c := by rw [Nat.mul_comm, Nat.mul_add_mod]; exact Nat.mod_eq_of_lt hcl
  have hcz : c < z.cells.size := by omega
  have hzc : zs[c]? = some (.d x) := by rw [hrow, List.getElem?_map, h2]; rfl
  refine ⟨z.cells[c], ?_, hc c (.d x) _ hzc (Array.getElem?_eq_getElem hcz)⟩
  unfold madeCells
  rw [Array.getElem?_map, Array.getElem?_range, if_pos hlt]
  simp only [Option.map_some, hz, hmod]
  rw [getElem!_pos z.cells c hcz]
def rowTo (i sz : Nat) : Place → Option Place := fun q =>
  if q.k = .h 1 then (if q.j < sz then some ⟨.h 0, 0, (i, q.j) :: q.p⟩ else none)
  else if q.k = .h 0 ∧ q.j = 0 then (match q.p with | (i', _) :: _ => if i' = i then none else some q | [] => some q)
  else some q
theorem rowTo_cases {i sz : Nat} {q t : Place} (h : rowTo i sz q = some t) : (q.k = .h 1 ∧ q.j < sz ∧ t = ⟨.h 0, 0, (i, q.j) :: q.p⟩) ∨ (q.k ≠ .h 1 ∧ (∀ c r, ¬ (q.k = .h 0 ∧ q.j = 0 ∧ q.p = (i, c) :: r)) ∧ t = q) := by
  unfold rowTo at h
  split at h
  · split at h
    · simp only [Option.some.injEq] at h; exact .inl ⟨‹_›, ‹_›, h.symm⟩
    · cases h
  · rename_i h1
    split at h
    · rename_i h2
      split at h
      · rename_i i' c' r' hp
        split at h
        · cases h
        · rename_i hne
          simp only [Option.some.injEq] at h
          exact .inr ⟨h1, fun c r e => hne (by have := e.2.2; rw [hp] at this; simp only [List.cons.injEq, Prod.mk.injEq] at this; exact this.1.1), h.symm⟩
      · rename_i hp
        simp only [Option.some.injEq] at h
        exact .inr ⟨h1, (fun c r e => by have := e.2.2; rw [hp] at this; cases this), h.symm⟩
    · rename_i h2
      simp only [Option.some.injEq] at h
      exact .inr ⟨h1, fun c r e => h2 ⟨e.1, e.2.1⟩, h.symm⟩
theorem rowTo_inj {i sz : Nat} {q q' t : Place} (h1 : rowTo i sz q = some t) (h2 : rowTo i sz q' = some t) : q = q' := by
  rcases rowTo_cases h1 with ⟨a1, a2, a3⟩ | ⟨a1, a2, a3⟩ <;> rcases rowTo_cases h2 with ⟨b1, b2, b3⟩ | ⟨b1, b2, b3⟩
  · rw [a3] at b3
    simp only [Place.mk.injEq, List.cons.injEq, Prod.mk.injEq, true_and] at b3
    cases q; cases q'; simp_all
  · exact absurd (by rw [← b3, a3]; exact ⟨rfl, rfl, rfl⟩) (b2 q.j q.p)
  · exact absurd (by rw [← a3, b3]; exact ⟨rfl, rfl, rfl⟩) (a2 q'.j q'.p)
  · rw [← a3, ← b3]
theorem rowTo_fix {i sz : Nat} {q : Place} (h : q.k.isPl = true) : rowTo i sz q = some q := by
  unfold rowTo
  rw [if_neg (fun e => by rw [e] at h; simp [Key.isPl] at h), if_neg (fun e => by rw [e.1] at h; simp [Key.isPl] at h)]
theorem rowTo_back {i sz : Nat} {q t : Place} (h : rowTo i sz q = some t) (ht : t.k.isPl = true) : q = t := by
  rcases rowTo_cases h with ⟨_, _, rfl⟩ | ⟨_, _, h⟩
  · simp [Key.isPl] at ht
  · exact h.symm
def ElemsOk (nm : FuncId → Option Nat) : List (Nat × Abs.X) → List (Nat × Operand) → Prop
  | [], [] => True
  | (i, X) :: t, (i', x) :: t' => i = i' ∧ OpRel nm X x ∧ X.okC = true ∧ ElemsOk nm t t'
  | _, _ => False
theorem evRows_rep (R0 : Rel nm N S0 a w0 L0) {sz : Nat} (hsz : 0 < sz) : ∀ (parts : List (Nat × Abs.X)) (ps : List (Nat × Operand)) {ws : List Wr} {L : LabF} {rows : List (List D)} {vs : Array Value} (M : Mid nm N S0 w0 L0 ws a w L) (hf : FreeH L 1) (hm : ∀ B o, L B ≠ some (.row ⟨.h 0, 0, []⟩ o))
    (hl : rows.length * sz = vs.size) (hlen : ∀ r ∈ rows, r.length = sz) (hc : ∀ i c x, cellOf rows i c = some x → ∃ u, vs[i * sz + c]? = some u ∧ RepD w L ⟨.h 0, 0, [(i, c)]⟩ x u) (hp : ElemsOk nm parts ps) {r : List (List D) × List Wr} (hr : (evRows sz ws rows parts).run S0 = some r),
    ∃ L' vs', Instr.fill (fun i => some (i * sz, sz)) vs (ps.map fun p => (p.1, a.eval p.2)) = some vs' ∧ Mid nm N S0 w0 L0 r.2 a w L' ∧ (∀ B o, L' B ≠ some (.row ⟨.h 0, 0, []⟩ o)) ∧ r.1.length = rows.length ∧ vs'.size = vs.size ∧ (∀ r' ∈ r.1, r'.length = sz) ∧
      ∀ i c x, cellOf r.1 i c = some x → ∃ u, vs'[i * sz + c]? = some u ∧ RepD w L' ⟨.h 0, 0, [(i, c)]⟩ x u
  | [], [], ws, L, rows, vs, M, hf, hm, hl, hlen, hc, hp, r, hr => by
    simp only [evRows] at hr
    obtain rfl := Q.run_pure_some hr
    exact ⟨L, vs, rfl, M, hm, rfl, rfl, hlen, hc⟩
  | (i, X) :: parts, (i', x) :: ps, ws, L, rows, vs, M, hf, hm, hl, hlen, hc, hp, r, hr => by
    obtain ⟨rfl, hx, hok, hp⟩ := hp
    simp only [evRows] at hr
    obtain ⟨⟨v, ws1⟩, h1, h2⟩ := Q.run_bind_some hr
    clear hr
    obtain ⟨⟨cs, ws2⟩, h3, h4⟩ := Q.run_bind_some h2
    clear h2
    obtain ⟨row, h5, h6⟩ := Q.run_ofO_some h4
    clear h4
    obtain ⟨hg, h7⟩ := Q.run_guard_some h6
    clear h6
    simp only [Bool.and_eq_true, beq_iff_eq, decide_eq_true_eq] at hg
    obtain ⟨hrl, hi⟩ := hg
    have hcs := dataL_inv h5
    have hcl : cs.length = sz := by simp only at hcs; rw [hcs]; simp [hrl]
    obtain ⟨L1, O1, hl1, hc1⟩ := part_rep M R0 hf hx hok h1 h3 (by omega)
    obtain ⟨M2, hst⟩ := O1.mid.relabH (f := rowTo i sz) (fun q hq => rowTo_fix hq) (fun q t h ht => rowTo_back h ht) (fun q q' t a b => rowTo_inj a b)
    have hf2 : FreeH (relab (rowTo i sz) L1) 1 := by
      intro B q o hB e
      obtain ⟨q0, _, h2⟩ := relab_row hB
      rcases rowTo_cases h2 with ⟨_, _, h⟩ | ⟨h6, _, h⟩
      · rw [h] at e; simp at e
      · rw [h] at e; exact h6 e
    have hm2 : ∀ B o, relab (rowTo i sz) L1 B ≠ some (.row ⟨.h 0, 0, []⟩ o) := by
      intro B o hB
      obtain ⟨q0, h8, h2⟩ := relab_row hB
      rcases rowTo_cases h2 with ⟨_, _, h⟩ | ⟨h6, _, h⟩
      · simp at h
      · rw [← h] at h8
        exact hm B o (O1.onlyH B _ o rfl (by simp) h8)
    obtain ⟨u1, u2⟩ := upd_spec vs (i * sz) (a.eval x).cells
    have hile : i * sz + sz ≤ vs.size := by
      have : (i + 1) * sz ≤ rows.length * sz := Nat.mul_le_mul_right _ hi
      rw [Nat.add_mul] at this; omega
    have hlen2 : ∀ r ∈ rows.set i row, r.length = sz := by
      intro r hr
      rcases List.mem_or_eq_of_mem_set hr with h | h
      · exact hlen r h
      · rw [h]; exact hrl
    have hcell : ∀ i' c y, cellOf (rows.set i row) i' c = some y → (i' = i ∧ row[c]? = some y) ∨ (i' ≠ i ∧ cellOf rows i' c = some y) := by
      intro i' c y hy
      obtain ⟨rr, k1, k2⟩ := cellOf_some.1 hy
      rw [List.getElem?_set] at k1
      by_cases he : i = i'
      · subst he
        rw [if_pos rfl, if_pos hi] at k1
        simp only [Option.some.injEq] at k1
        rw [k1]
        exact .inl ⟨rfl, k2⟩
      · rw [if_neg he] at k1
        exact .inr ⟨fun e => he e.symm, cellOf_some.2 ⟨rr, k1, k2⟩⟩
    obtain ⟨L', vs', g1, g2, g3, g4, g5, g6, g7⟩ := evRows_rep R0 hsz parts ps (rows := rows.set i row) (vs := upd vs (i * sz) (a.eval x).cells) M2 hf2 hm2 (by rw [List.length_set, u1]; exact hl) hlen2 (by
      intro i' c y hy
      have hlt := cellOf_lt hlen2 hy
      rw [List.length_set] at hlt
      have hidx := idx_lt hlt.1 hlt.2
      rw [hl] at hidx
      rw [u2 _ hidx, ← hl1, hcl]
      rcases hcell i' c y hy with ⟨rfl, hrow⟩ | ⟨hne, hold⟩
      · have hcd : cs[c]? = some (.d y) := by simp only at hcs; rw [hcs]; simp [hrow]
        have hcu : c < (a.eval x).cells.size := by omega
        refine ⟨(a.eval x).cells[c], ?_, ?_⟩
        · rw [if_pos ⟨by omega, by omega⟩, show i' * sz + c - i' * sz = c by omega]
          simp [hcu]
        · have h9 := hc1 c (.d y) _ hcd (Array.getElem?_eq_getElem hcu)
          cases h9 with
          | d h9 =>
            have := RepD.move (w' := w) (L' := relab (rowTo i' sz) L1) (fun q => ⟨.h 0, 0, (i', q.j) :: q.p⟩) (fun q => q.k = .h 1 ∧ q.j = c) (fun _ _ _ h => h) (fun _ _ _ _ => rfl) (fun B hB => ⟨relab_imm.2 hB, rfl⟩)
              (fun B q o hq hL => ⟨relab_of_row hL (by unfold rowTo; rw [if_pos hq.1, if_pos (by rw [hq.2]; exact hlt.2)]), rfl⟩) h9 ⟨rfl, rfl⟩
            exact this
      · have hnin : ¬ (i * sz ≤ i' * sz + c ∧ i' * sz + c < i * sz + sz) := by
          rintro ⟨k1, k2⟩
          rcases Nat.lt_or_gt_of_ne hne with h | h
          · have : (i' + 1) * sz ≤ i * sz := Nat.mul_le_mul_right _ h
            rw [Nat.add_mul] at this; omega
          · have : (i + 1) * sz ≤ i' * sz := Nat.mul_le_mul_right _ h
            rw [Nat.add_mul] at this; omega
        rw [if_neg hnin]
        obtain ⟨u, k1, k2⟩ := hc i' c y hold
        refine ⟨u, k1, ?_⟩
        have k3 : RepD w L1 ⟨.h 0, 0, [(i', c)]⟩ y u := by
          refine RepD.move id (fun q => q.k = .h 0) (fun _ _ _ h => h) (fun _ _ _ _ => rfl) O1.stp.imm (fun B q o hq hL => ⟨O1.keepH B q o (by rw [hq]; rfl) (by rw [hq]; simp) hL, rfl⟩) k2 rfl
        refine RepD.move id (fun q => ∃ r, q = ⟨.h 0, 0, (i', c) :: r⟩) (by rintro q a b ⟨r, rfl⟩; exact ⟨r ++ [(a, b)], rfl⟩) (fun _ _ _ _ => rfl) (fun B hB => ⟨relab_imm.2 hB, rfl⟩) ?_ k3 ⟨[], rfl⟩
        rintro B q o ⟨r, rfl⟩ hL
        refine ⟨relab_of_row hL ?_, rfl⟩
        unfold rowTo
        rw [if_neg (by simp), if_pos ⟨rfl, rfl⟩]
        simp only [id, hne, if_false]) hp h7
    refine ⟨L', vs', ?_, g2, g3, by rw [g4, List.length_set], by rw [g5, u1], g6, g7⟩
    simp only [List.map_cons, Instr.fill]
    rw [if_neg (by simp; omega)]
    exact g1
  | [], _ :: _, _, _, _, _, _, _, _, _, _, _, hp, _, _ => hp.elim
  | (_, _) :: _, [], _, _, _, _, _, _, _, _, _, _, hp, _, _ => hp.elim
theorem fin_row {rows : List (List D)} {sz : Nat} {vs : Array Value} (hc : ∀ i c x, cellOf rows i c = some x → ∃ u, vs[i * sz + c]? = some u ∧ RepD w L ⟨.h 0, 0, [(i, c)]⟩ x u) :
    ∃ val, Lies rows sz 0 vs val ∧ Cont w L ⟨.h 0, 0, []⟩ rows val := by
  refine ⟨fun i c => vs.getD (i * sz + c) undef, ?_, ?_⟩
  · intro i c x hx
    obtain ⟨u, h1, _⟩ := hc i c x hx
    rw [Nat.zero_add, h1]
    simp [Array.getD_eq_getD_getElem?, h1]
  · intro i c x hx
    obtain ⟨u, h1, h2⟩ := hc i c x hx
    simp only [Array.getD_eq_getD_getElem?, h1, Option.getD_some]
    exact h2
theorem ev_bslice (R : Rel nm N S a w L) (hH : NoH L) (hd : ∀ d, o.dst = some d → d < N) {t e : TypeId} {len : Nat} {parts : Array (Nat × Operand)} {zs : List C} {row : List D} {ps : List (Nat × Abs.X)} (ho : o.op = .buildSlice t len parts) (ht : P.underlying t = some (.slice e)) (hz : zeroC P e = some zs) (hdz : dataL zs = some row)
    (hsmall : ¬ (len * zs.length > 2 ^ 24)) (hz0 : zs.length ≠ 0) (hp : ElemsOk nm ps parts.toList) (h8 : u8Row row = true → e = 5)
    (hr : (evOp Cl d (.bslice zs.length (List.replicate len row) ps)).run S = some r) : OpsTo P a w o (Aft nm N S w L a o.dst r.1 r.2) := by
  simp only [evOp] at hr
  obtain ⟨⟨rs, ws1⟩, h1, h2⟩ := Q.run_bind_some hr
  clear hr
  obtain ⟨hg8, h2⟩ := Q.run_guard_some h2
  obtain rfl := Q.run_pure_some h2
  have hu8 : U8At rs e := by
    intro hn
    simp only [Bool.or_eq_true, Bool.and_eq_true, Bool.not_eq_true', List.isEmpty_eq_false_iff] at hg8
    obtain ⟨hg8, hne⟩ := hg8
    have hn : noU8 rs = false := hn.resolve_right hne
    rcases hg8 with hg8 | hg8
    · rw [hn] at hg8; cases hg8
    · obtain ⟨q1, q2⟩ := noU8_false.1 hg8
      cases len with
      | zero => exact absurd rfl q1
      | succ n => exact h8 (q2 row (by simp [List.replicate_succ]))
  obtain ⟨i, z, k1, k2, k3, k4, k5⟩ := zeroC_inv hz
  have hfree : ∀ m, FreeH L m := fun m B q o hB e => by have := hH B q o hB; rw [e] at this; simp [Key.isPl] at this
  obtain ⟨z1, z2⟩ := zero_rows (n := len) (m := len) hdz k3 k5 (Nat.le_refl _) hz0
  obtain ⟨L', vs', g1, g2, g3, g4, g5, g6, g7⟩ := evRows_rep R (Nat.pos_of_ne_zero hz0) ps parts.toList (Mid.init R) (hfree 1) (fun B o hB => hfree 0 B _ o hB rfl) (rows := List.replicate len row) (vs := madeCells z.cells (len * zs.length))
    (by rw [size_madeCells, List.length_replicate]) z1 (fun i c x hx => by
      obtain ⟨u, h3, h4⟩ := z2 i c x hx
      exact ⟨u, h3, .plain (h4.plain w L)⟩) hp h1
  obtain ⟨val, hv, hcont⟩ := fin_row g7
  simp only [List.length_replicate] at g4
  obtain ⟨hR, hM, hrep⟩ := g2.rel.newRowW (m := 0) (j := 0) (w' := w.alloc (.cells vs' e)) (cap := len) g3 (heap_alloc_self w _) (fun B hB => heap_alloc_lt w _ hB) (fun j _ => by simp) ⟨rfl, rfl, rfl, by simp⟩ (Nat.pos_of_ne_zero hz0) g6 (by rw [g4]; exact Nat.le_refl _) (by rw [g5, size_madeCells]; exact Nat.le_refl _) hv hcont hu8
  refine .val (v := .slice (some ⟨w.heap.size, 0, none⟩) len len) (w' := w.alloc (.cells vs' e)) ?_ (hR.aft (g2.mono.trans hM) hd (m := 0) (.one (by rw [← g4]; rw [← g4] at hrep; exact hrep)))
  have hi : i.size = zs.length := by omega
  have : (Instr.buildSlice t len (parts.map fun (i, x) => (i, a.eval x))).run P w = .ok (.slice (some ⟨w.heap.size, 0, none⟩) len len) (w.alloc (.cells vs' e)) := by
    have hpe : (parts.map fun (i, x) => (i, a.eval x)).toList = parts.toList.map fun p => (p.1, a.eval p.2) := by simp
    have hs2 : ¬ (16777216 < len * zs.length) := by omega
    unfold Instr.buildSlice
    simp only [Sem.run_bind, run_underlying ht, Result.andThen_ok, sizeOf, typeInfo, run_program, k1, Sem.run_pure, hi]
    have hgt : ¬ (len * zs.length > 2 ^ 24) := hsmall
    by_cases h0 : len * zs.length = 0
    · have hm0 : madeCells z.cells (len * zs.length) = #[] := by rw [h0]; simp [madeCells]
      rw [hm0] at g1
      simp only [hgt, if_false, h0, if_true, Sem.run_pure, Result.andThen_ok, Sem.run_bind]
      simp only [Array.range_zero', hpe]
      have : ((Array.range 0).map fun x => (#[] : Array Value)[x % (#[] : Array Value).size]!) = #[] := by simp
      simp [g1, newRow]
    · simp only [hgt, if_false, h0, Sem.run_bind, zeroValue, typeInfo, run_program, k1, k2, Result.andThen_ok, Sem.run_pure]
      have hmade : ((Array.range (len * zs.length)).map fun x => z.cells[x % z.cells.size]!) = madeCells z.cells (len * zs.length) := rfl
      simp [hpe, hmade, g1, newRow]
  simp [execOp, ho, this]
end
end
section
section
variable {nm : FuncId → Option Nat} {N : Nat} {S S0 : St} {a : Act} {w w0 : World} {L L0 : LabF} {P : Program} {o : Oper} {Cl : Oracle} {d : Nat} {r : V × List Wr} {ws : List Wr}
theorem NoH.free (h : NoH L) (m : Nat) : FreeH L m := fun B q o hB e => by have := h B q o hB; rw [e] at this; simp [Key.isPl] at this
theorem ev_mkslice (R : Rel nm N S a w L) (hH : NoH L) (hd : ∀ d, o.dst = some d → d < N) {t e : TypeId} {l c : Operand} {LX CX : Abs.X} {i : TypeInfo} {zs : List C} {row : List D} (hl : OpRel nm LX l) (hc : OpRel nm CX c) (ho : o.op = .makeSlice t l c) (ht : P.underlying t = some (.slice e)) (hi : P.info? e = some i) (hz : zeroC P e = some zs) (hdz : dataL zs = some row)
    (hs0 : i.size ≠ 0) {bytes : Nat} (hby : i.bytes ≤ bytes ∧ (bytes = 1 → e = 5)) (hr : (evOp Cl d (.mkslice i.size bytes row LX CX)).run S = some r) : OpsTo P a w o (Aft nm N S w L a o.dst r.1 r.2) := by
  simp only [evOp] at hr
  obtain ⟨vl, h1, h2⟩ := Q.run_bind_some hr
  clear hr
  obtain ⟨vc, h3, h4⟩ := Q.run_bind_some h2
  clear h2
  obtain ⟨n, h5, h6⟩ := Q.run_ofO_some h4
  clear h4
  obtain ⟨m, h7, h8⟩ := Q.run_ofO_some h6
  clear h6
  obtain ⟨hg, h9⟩ := Q.run_guard_some h8
  clear h8
  obtain rfl := Q.run_pure_some h9
  simp only [Bool.and_eq_true, decide_eq_true_eq, beq_iff_eq] at hg
  obtain ⟨⟨⟨⟨hnm, hb0⟩, h63⟩, _⟩, h8⟩ := hg
  have hb : m * i.bytes ≤ 140737488355328 := Nat.le_trans (Nat.mul_le_mul_left _ hby.1) hb0
  obtain ⟨kl, hl'⟩ := asNat_inv (rd_val R hl h1) h5
  obtain ⟨kc, hc'⟩ := asNat_inv (rd_val R hc h3) h7
  obtain ⟨i', z, k1, k2, k3, k4, k5⟩ := zeroC_inv hz
  obtain rfl : i' = i := by rw [hi] at k1; simpa using k1.symm
  have hsz : i'.size = zs.length := by omega
  obtain ⟨z1, z2⟩ := zero_rows (n := n) (m := m) hdz k3 k5 hnm (by omega)
  rw [← hsz] at z1 z2
  obtain ⟨val, hv, hcont⟩ := fin_row (w := w) (L := L) (rows := List.replicate n row) (sz := i'.size) (vs := madeCells z.cells (m * i'.size)) (fun i c x hx => by
    obtain ⟨u, h3, h4⟩ := z2 i c x hx
    exact ⟨u, h3, .plain (h4.plain w L)⟩)
  obtain ⟨hR, hM, hrep⟩ := R.newRowW (m := 0) (j := 0) (w' := w.alloc (.cells (madeCells z.cells (m * i'.size)) e)) (cap := m) (fun B o hB => hH.free 0 B _ o hB rfl) (heap_alloc_self w _) (fun B hB => heap_alloc_lt w _ hB) (fun j _ => by simp) ⟨rfl, rfl, rfl, by simp⟩ (Nat.pos_of_ne_zero hs0) z1
    (by simpa using hnm) (by rw [size_madeCells]; exact Nat.le_refl _) hv hcont (by
      intro hn
      simp only [Bool.or_eq_true, beq_iff_eq, Bool.and_eq_true, Bool.not_eq_true', beq_eq_false_iff_ne] at h8
      rcases h8 with h8 | ⟨h8, h10⟩
      · exact hby.2 h8
      · exfalso
        have hn := hn.resolve_right fun e => h10 (by simpa using e)
        obtain ⟨q1, q2⟩ := noU8_false.1 hn
        cases n with
        | zero => exact absurd rfl q1
        | succ n =>
          have h9 := q2 row (by simp [List.replicate_succ])
          rw [h9] at h8; cases h8)
  simp only [List.length_replicate] at hrep
  refine .val (v := .slice (some ⟨w.heap.size, 0, none⟩) n m) (w' := w.alloc (.cells (madeCells z.cells (m * i'.size)) e)) ?_ (Rel.aft (ws := []) hR hM hd (m := 0) (.one hrep))
  have : (Instr.makeSlice t (a.eval l) (a.eval c)).run P w = .ok (.slice (some ⟨w.heap.size, 0, none⟩) n m) (w.alloc (.cells (madeCells z.cells (m * i'.size)) e)) := by
    rw [hl', hc']
    have hbb : (i'.bytes : Int) * (m : Int) ≤ 281474976710656 := by
      have h1 : i'.bytes * m ≤ 281474976710656 := by rw [Nat.mul_comm]; omega
      have h2 : ((i'.bytes * m : Nat) : Int) ≤ 281474976710656 := by omega
      rwa [Int.natCast_mul] at h2
    exact run_make w t e i' z ht hi k2 kl kc n m (by omega) (by omega) hbb (by omega)
  simp [execOp, ho, this]
theorem strB_cell {s : List UInt8} {i c : Nat} {x : D} (h : cellOf (D.strB s) i c = some x) : ∃ b, s[i]? = some b ∧ c = 0 ∧ x = .int .u8 b.toNat := by
  obtain ⟨r, h1, h2⟩ := cellOf_some.1 h
  simp only [D.strB, List.getElem?_map] at h1
  cases hb : s[i]? with
  | none => simp [hb] at h1
  | some b =>
    simp only [hb, Option.map_some, Option.some.injEq] at h1
    subst h1
    cases c with
    | zero => simp at h2; exact ⟨b, rfl, rfl, h2.symm⟩
    | succ c => simp at h2
theorem strB_len (s : List UInt8) : (D.strB s).length = s.length := by simp [D.strB]
theorem strB_lens (s : List UInt8) : ∀ r ∈ D.strB s, r.length = 1 := by
  intro r hr
  simp only [D.strB, List.mem_map] at hr
  obtain ⟨b, _, rfl⟩ := hr
  rfl
def strCells (s : List UInt8) : Array Value := (s.map fun b => Value.int .u8 b.toNat).toArray
theorem ev_strBytes (R : Rel nm N S a w L) (hH : NoH L) (hd : ∀ d, o.dst = some d → d < N) {t u e : TypeId} {x : Operand} {X : Abs.X} (hx : OpRel nm X x) (ho : o.op = .convert t u x) (ht : P.underlying t = some .string) (hu : P.underlying u = some (.slice e)) (he : P.underlying e = some (.int .u8)) (he5 : e = 5)
    (hr : (evOp Cl d (.conv .strBytes X)).run S = some r) : OpsTo P a w o (Aft nm N S w L a o.dst r.1 r.2) := by
  simp only [evOp] at hr
  obtain ⟨v1, h1, h2⟩ := Q.run_bind_some hr
  clear hr
  have r1 := rd_val R hx h1
  cases v1 with
  | one c =>
    cases c with
    | d z =>
      cases z with
      | str s =>
        obtain ⟨hg, h3⟩ := Q.run_guard_some (b := decide (s.length ≤ 140737488355328)) (f := fun _ => (pure (V.one (C.d (D.sl Tag.own 1 (D.strB s))), []) : Q (V × List Wr))) h2
        obtain rfl := Q.run_pure_some h3
        simp only [decide_eq_true_eq] at hg
        have e1 := r1.one_inv.str_inv
        let cap := grownCap w s.length 0 e
        have hcap : s.length ≤ cap := grownCap_ge w s.length 0 e
        let cur : Array Value := strCells s ++ Array.replicate (cap - s.length) (.int .u8 0)
        have hcs : cur.size = cap := by simp [cur, strCells]; omega
        let w' := (w.drew.alloc (.cells cur e)).freeze ⟨w.heap.size, cur.size, none⟩ 1
        have hself : w'.heap[w.heap.size]? = some (.cells cur e (cur.size, cur.size + 1)) := by
          have h0 := heap_alloc_self w.drew (.cells cur e)
          simp only [World.size_drew] at h0
          simp only [w', World.freeze, Nat.one_ne_zero, if_false, Array.getElem?_modify, h0]
          simp
        have hoth : ∀ B, B ≠ w.heap.size → w'.heap[B]? = w.heap[B]? := by
          intro B hB
          have h0 := heap_alloc_lt w.drew (.cells cur e) (B := B) hB
          simp only [w', World.freeze, Nat.one_ne_zero, if_false, Array.getElem?_modify]
          rw [if_neg (fun e => hB e.symm)]
          exact h0
        have hcell : ∀ (i : Nat) b, s[i]? = some b → cur[i]? = some (Value.int .u8 b.toNat) := by
          intro i b hb
          have hi := (List.getElem?_eq_some_iff.1 hb).1
          simp only [cur]
          rw [Array.getElem?_append_left (by simp [strCells]; exact hi)]
          simp [strCells, hb]
        obtain ⟨hR, hM, hrep⟩ := R.newRowW (m := 0) (j := 0) (w' := w') (cap := cap) (rows := D.strB s) (sz := 1) (val := fun i _ => Value.int .u8 (((s.getD i 0).toNat : Nat) : Int)) (fun B o hB => hH.free 0 B _ o hB rfl) hself hoth (fun j hj h => by simp at h; omega)
          ⟨rfl, rfl, rfl, by simp [w', World.freeze]⟩ (by omega) (strB_lens s) (by rw [strB_len]; exact hcap) (by omega) (fun i c x hx => by
            obtain ⟨b, g1, rfl, rfl⟩ := strB_cell hx
            rw [Nat.zero_add, Nat.mul_one, Nat.add_zero, hcell i b g1]
            simp [List.getD_eq_getElem?_getD, g1]) (fun i c x hx => by
            obtain ⟨b, g1, rfl, rfl⟩ := strB_cell hx
            simp only [List.getD_eq_getElem?_getD, g1, Option.getD_some]
            exact .plain .int) (fun _ => he5)
        rw [strB_len] at hrep
        refine .val (v := .slice (some ⟨w.heap.size, 0, none⟩) s.length cap) (w' := w') ?_ (Rel.aft (ws := []) hR hM hd (m := 0) (.one hrep))
        have : (convert t u (a.eval x)).run P w = .ok (.slice (some ⟨w.heap.size, 0, none⟩) s.length cap) w' := by
          rw [e1]
          have hsh : (w.drew.alloc (.cells cur e)).shape? w.heap.size = some (e, cur.size) := by
            have h0 := heap_alloc_self w.drew (.cells cur e)
            simp only [World.size_drew] at h0
            unfold World.shape?
            rw [h0]
          have hel : (⟨s.toArray⟩ : ByteArray).data.map (fun b => Value.int .u8 b.toNat) = strCells s := by
            apply Array.ext'; simp [strCells]
          simp only [convert, Sem.run_bind, run_underlying ht, run_underlying hu, Result.andThen_ok, run_underlying he, Conv.stringToBytes, run_choose, Question.forced, bytes_size, hel, newRow, run_newObj, Sem.run_pure, markStringish, run_shape, run_freeze]
          simp only [Bool.false_eq_true, if_false, Result.andThen_ok, World.drew_eq, World.alloc_eq, World.size_drew]
          rw [show (Question.cut (.appendCap s.length 0 e) (w.tape w.drawn (.appendCap s.length 0 e))) = cap from rfl]
          rw [show strCells s ++ Array.replicate (cap - s.length) (Value.int .u8 0) = cur from rfl, hsh]
          rfl
        simp [execOp, ho, this]
      | _ => cases h2
    | _ => cases h2
  | _ => cases h2
theorem rows_src {γ : Key → Nat} {m : Nat} {tg : Tag} {sz sz' : Nat} {rows : List (List D)} {v : Value} (h : RepC nm w L γ (.h m) 0 (.d (.sl tg sz' rows)) v) (hs : sz' = sz ∨ rows = []) :
    ∃ news val2, Src P sz w v rows.length news ∧ (∀ r ∈ rows, r.length = sz) ∧ Cont w L ⟨.h m, 0, []⟩ rows val2 ∧ Lies rows sz 0 news val2 := by
  have empty : rows = [] → (∃ b cap, v = .slice b 0 cap) → ∃ news val2, Src P sz w v rows.length news ∧ (∀ r ∈ rows, r.length = sz) ∧ Cont w L ⟨.h m, 0, []⟩ rows val2 ∧ Lies rows sz 0 news val2 := by
    rintro rfl ⟨b, cap, rfl⟩
    refine ⟨#[], fun _ _ => undef, ⟨fun w' => by simp [Builtin.lenOf], fun w' _ => ?_, by simp, by simp⟩, by simp, fun i c x hx => by simp [cellOf] at hx, fun i c x hx => by simp [cellOf] at hx⟩
    cases b <;> simp [Builtin.firstCells, loadCells, loadCellsFrom]
  have full : ∀ (B o cap : Nat) (cur : Array Value) (e : TypeId) (fz : Nat × Nat) (val : Nat → Nat → Value), v = .slice (some ⟨B, o, none⟩) rows.length cap → sz' = sz → w.heap[B]? = some (.cells cur e fz) → (∀ r ∈ rows, r.length = sz') →
      (∀ i c x, cellOf rows i c = some x → cur[o + i * sz' + c]? = some (val i c)) → Cont w L ⟨.h m, 0, []⟩ rows val → ∃ news val2, Src P sz w v rows.length news ∧ (∀ r ∈ rows, r.length = sz) ∧ Cont w L ⟨.h m, 0, []⟩ rows val2 ∧ Lies rows sz 0 news val2 := by
    rintro B o cap cur e fz val rfl rfl hB hlen hv hc
    have hk : ∀ k, k < rows.length * sz' → ∃ i c x, cellOf rows i c = some x ∧ k = i * sz' + c ∧ cur[o + k]? = some (val i c) := by
      intro k hk
      obtain ⟨i, c, x, g1, g2, _, _⟩ := cellOf_idx hlen hk
      exact ⟨i, c, x, g1, g2, by rw [g2, ← Nat.add_assoc]; exact hv i c x g1⟩
    have hsize : o + rows.length * sz' ≤ cur.size ∨ rows.length * sz' = 0 := by
      rcases Nat.eq_zero_or_pos (rows.length * sz') with h | h
      · exact .inr h
      · obtain ⟨i, c, x, _, _, g⟩ := hk (rows.length * sz' - 1) (by omega)
        have := (Array.getElem?_eq_some_iff.1 g).1
        exact .inl (by omega)
    rcases hsize with hsize | h0
    · refine ⟨cur.extract o (o + rows.length * sz'), val, ⟨fun w' => by simp [Builtin.lenOf], fun w' hw => ?_, by simp; omega, ?_⟩, hlen, hc, ?_⟩
      · simp only [Builtin.firstCells]
        exact read_cells (w := w') (by rw [hw]; exact hB) hsize
      · intro u hu
        obtain ⟨k, hk1, hk2⟩ := Array.mem_iff_getElem.1 hu
        simp only [Array.size_extract] at hk1
        obtain ⟨i, c, x, g1, g2, g3⟩ := hk k (by omega)
        have : u = val i c := by
          rw [← hk2, Array.getElem_extract]
          rw [Array.getElem?_eq_getElem (by omega)] at g3
          simpa using g3
        rw [this]
        exact (hc i c x g1).oneCell
      · intro i c x hx
        obtain ⟨h1, h2⟩ := cellOf_lt hlen hx
        have := idx_lt h1 h2
        rw [Nat.zero_add, Array.getElem?_extract, if_pos (by omega), ← Nat.add_assoc]
        exact hv i c x hx
    · refine ⟨#[], val, ⟨fun w' => by simp [Builtin.lenOf], fun w' hw => ?_, by simp [h0], by simp⟩, hlen, hc, ?_⟩
      · simp [Builtin.firstCells, loadCells, loadCellsFrom, h0]
      · intro i c x hx
        obtain ⟨h1, h2⟩ := cellOf_lt hlen hx
        have := idx_lt h1 h2
        omega
  cases h with
  | d h =>
    cases h with
    | plain h =>
      cases h with
      | nil => exact empty rfl ⟨_, _, rfl⟩
      | plE => exact empty rfl ⟨_, _, rfl⟩
      | pl val hne hsz hcap hL hB hlen hv hr => exact full _ _ _ _ _ _ val rfl (hs.resolve_right hne) hB hlen hv (fun i c x hx => .plain (hr i c x hx))
    | ownE => exact empty rfl ⟨_, _, rfl⟩
    | own val hsz hL hB hfz hlen hcap hroom hv hr =>
      rcases hs with hs | hs
      · exact full _ _ _ _ _ _ val rfl hs hB hlen hv (fun i c x hx => by have := hr i c x hx; simpa [Place.sub] using this)
      · exact empty hs ⟨_, _, by rw [hs]; rfl⟩
theorem AppAt.own {m sz : Nat} {rows : List (List D)} {v : Value} (h : AppAt w L ⟨.h m, 0, []⟩ sz rows ⟨.h m, 0, []⟩ v) : RepD w L ⟨.h m, 0, []⟩ (.sl .own sz rows) v := by
  rcases h with ⟨rfl, a, rfl⟩ | ⟨B, o, cap, cur, e, fz, n0, val, rfl, hsz, hL, hB, hfz, hlens, hcap, hroom, hval, hd, hu8⟩
  · exact .ownE
  · refine .own val hsz (hL.elim id id) hB hfz hlens hcap hroom hval (fun i c x hx => ?_) hu8
    have := hd i c x hx
    simpa using this
theorem AppAt.of_own {m sz : Nat} {rows : List (List D)} {v : Value} (h : RepD w L ⟨.h m, 0, []⟩ (.sl .own sz rows) v) : AppAt w L ⟨.h m, 0, []⟩ sz rows ⟨.h m, 0, []⟩ v := by
  rcases h.own_inv with ⟨rfl, a, rfl⟩ | ⟨B, o, cap, cur, e, fz, val, rfl, hsz, hL, hB, hfz, hlens, hcap, hroom, hval, hd, hu8⟩
  · exact .inl ⟨rfl, a, rfl⟩
  · exact .inr ⟨B, o, cap, cur, e, fz, 0, val, rfl, hsz, .inl hL, hB, hfz, hlens, hcap, hroom, hval, fun i c x hx => by simpa using hd i c x hx, hu8⟩
theorem appTo_rep (M : Mid nm N S0 w0 L0 ws a w L) {sz bytes : Nat} {v : V} {u x : Value} {src : List (List D)} {t ut ty e : TypeId} {i : TypeInfo} {dd : TypeDesc} {z : Value} (T : AppT P sz bytes t ut e i dd z) (hv : LimV nm w0 L0 S0.γ w L (S0.wrs ws).γ 0 v u)
    {news : Array Value} {val2 : Nat → Nat → Value} (hx : Src P sz w x src.length news) (hsl : ∀ r ∈ src, r.length = sz) (hc2 : Cont w L ⟨.h 1, 0, []⟩ src val2) (hl2 : Lies src sz 0 news val2)
    (hr : (appTo sz bytes v ws src).run S0 = some r) {dst : Option Nat} (hd : ∀ d, dst = some d → d < N) :
    ∃ v' w', (Builtin.append_ #[t, ut] ty #[u, x]).run P w = .ok v' w' ∧ Aft nm N S0 w0 L0 a dst r.1 r.2 v' w' := by
  unfold appTo at hr
  split at hr
  · -- one's own
    rename_i sz' rows
    obtain ⟨hg, h2⟩ := Q.run_guard_some hr
    obtain rfl := Q.run_pure_some h2
    simp only [Bool.and_eq_true, beq_iff_eq, decide_eq_true_eq] at hg
    obtain ⟨h8, rfl, hb⟩ := hg
    have hv' : RepC nm w L (S0.wrs ws).γ (.h 0) 0 (.d (.sl .own sz' rows)) u := hv
    cases hv' with
    | d hv' =>
      obtain ⟨v', w', L', g1, g2, g3, g4, g5, _⟩ := app_core (ty := ty) M.rel (by omega : (0 : Nat) ≠ 1) T (.inl (AppAt.of_own hv')) (.inl rfl) hx hsl hc2 hl2 hb (.inl h8)
      exact ⟨v', w', g1, (g5 rfl).aft (M.mono.trans g2) hd (m := 0) (.one (.d g3.own))⟩
  · -- nil
    rename_i bn sz' rows
    obtain ⟨hg, h2⟩ := Q.run_guard_some hr
    obtain rfl := Q.run_pure_some h2
    simp only [Bool.and_eq_true, beq_iff_eq, decide_eq_true_eq] at hg
    obtain ⟨h8, ⟨rfl, rfl⟩, hb⟩ := hg
    have hv' : RepC nm w L (S0.wrs ws).γ (.h 0) 0 (.d (.sl (.im true) sz' rows)) u := hv
    cases hv' with
    | d hv' =>
      cases hv' with
      | plain hv' =>
        cases hv'
        cases src with
        | nil =>
          obtain ⟨ht, hu, hd', hi, hz, hs1, hzs, hsz, hs2, hb0, _⟩ := T
          have hrun := run_append_in0 (ty := ty) (w := w) (b := none) (sLen := 0) (sCap := 0) ht hu hd' hi (by rw [hs1]; exact hx) (Nat.le_refl _)
          exact ⟨_, w, hrun, M.rel.aft M.mono hd (m := 0) (.one (.d (.plain (by simpa using RepP.nil))))⟩
        | cons r0 rs =>
          obtain ⟨v', w', L', g1, g2, g3, g4, g5, _⟩ := app_core (ty := ty) (rows := []) (pl := ⟨.h 0, 0, []⟩) M.rel (by omega : (0 : Nat) ≠ 1) T (.inr ⟨rfl, by simp, rfl⟩) (.inl rfl) hx hsl hc2 hl2 (by simpa using hb) (.inr ⟨h8, rfl⟩)
          exact ⟨v', w', g1, (g5 rfl).aft (M.mono.trans g2) hd (m := 0) (.one (.d g3.own))⟩
  · -- a view
    rename_i pl g sz' off len
    obtain ⟨res, h3, h4⟩ := Q.run_bind_some hr
    obtain ⟨e', x', rows⟩ := res
    obtain ⟨rfl, hgg, hE, hn⟩ := ownAt_run h3
    obtain ⟨hg, h5⟩ := Q.run_guard_some h4
    have h6 := Q.run_at_some h5
    obtain rfl := Q.run_pure_some h6
    simp only [Bool.and_eq_true, beq_iff_eq, decide_eq_true_eq] at hg
    obtain ⟨⟨⟨⟨⟨h8, rfl⟩, rfl⟩, rfl⟩, hfr⟩, hb⟩ := hg
    obtain ⟨f1, f2, f3⟩ := fresh_γ (S := S0) hfr
    have hv' : RepC nm w0 L0 S0.γ (.h 0) 0 (.view pl g sz' 0 rows.length) u := hv
    cases hv' with
    | view hv0 hh hgl hV =>
      obtain ⟨u0, hu0⟩ := M.at_own hh hE hn
      have hA : AppAt w L pl sz' rows ⟨.h 0, 0, []⟩ u := by
        rcases hV hgg with ⟨h0, a0, rfl⟩ | ⟨B, o, cap, cur, e', fz, rfl, hsz, hL, hB, hfz, hle, hroom, h8v⟩
        · exact .inl ⟨List.length_eq_zero_iff.1 h0, a0, rfl⟩
        · have hLB := (M.stp.view B pl o hh f1 hL).1
          have hBw : w.heap[B]? = some (.cells cur e' fz) := (M.heap B _ hL).trans hB
          simp only [Nat.zero_mul, Nat.add_zero] at hroom ⊢
          rcases hu0.own_inv with ⟨rfl, _⟩ | ⟨B', o', cap', cur', e2, fz', val, _, _, hL', hB', _, hlens, hcap', hroom', hval, hrr, hu8⟩
          · exact .inr ⟨B, o, cap, cur, e', fz, 0, fun _ _ => undef, rfl, hsz, .inl hLB, hBw, hfz, by simp, by simp, hroom, fun i c x hx => by simp [cellOf] at hx, fun i c x hx => by simp [cellOf] at hx, fun _ => h8v rfl rfl⟩
          · obtain rfl := M.rel.rowInj B' B pl o' o hL' hLB
            obtain rfl : o' = o := by rw [hL'] at hLB; simpa using hLB
            obtain ⟨rfl, rfl, rfl⟩ : cur' = cur ∧ e2 = e' ∧ fz' = fz := by rw [hB'] at hBw; simpa using hBw
            exact .inr ⟨B', o', cap, cur', e2, fz', rows.length, val, rfl, hsz, .inl hL', hB', hfz, hlens, hle, hroom, hval, fun i c x hx => by
              rw [if_pos (cellOf_lt hlens hx).1]; exact hrr i c x hx, hu8⟩
      obtain ⟨v', w', L', g1, g2, g3, g4, _, g5⟩ := app_core (ty := ty) M.rel (by omega : (0 : Nat) ≠ 1) T (.inl hA) (.inr ⟨hh, x', rows, hE, hn, Nat.le_refl _⟩) hx hsl hc2 hl2 hb (.inl h8)
      refine ⟨v', w', g1, Rel.aft (ws := { k := .a pl.k, v := V.dead } :: ws) (g5 hh) (M.mono.trans g2) hd (m := 0) (.one (.appd g4 hh ?_ ?_ (fun _ _ => g3)))⟩
      · rw [hgg]; exact St.γ_wrs_le S0 _ _
      · show (S0.γ (.a pl.k)) + 1 ≤ ((S0.wrs ws).wr { k := .a pl.k, v := V.dead }).γ (.a pl.k)
        rw [St.γ_wr, f2]; simp
  · -- what was appended already
    rename_i pl g aa sz' rows
    obtain ⟨res, h3, h4⟩ := Q.run_bind_some hr
    obtain ⟨e', x', old⟩ := res
    obtain ⟨rfl, hgg, hE, hn⟩ := ownAt_run h3
    have h5 := Q.run_at_some h4
    obtain ⟨hg, h6⟩ := Q.run_guard_some h5
    obtain rfl := Q.run_pure_some h6
    simp only [Bool.and_eq_true, beq_iff_eq, decide_eq_true_eq] at hg
    obtain ⟨⟨⟨⟨⟨h8, rfl⟩, hold⟩, haa⟩, hfr⟩, hb⟩ := hg
    obtain ⟨f1, f2, f3⟩ := fresh_γ (S := S0) hfr
    have hv' : RepC nm w L (S0.wrs ws).γ (.h 0) 0 (.appd pl g aa sz' rows) u := hv
    cases hv' with
    | appd hv0 hh hgl hal hV =>
      have hA := hV (by rw [f1]; exact hgg) (by rw [f2]; exact haa.symm)
      obtain ⟨v', w', L', g1, g2, g3, g4, _, g5⟩ := app_core (ty := ty) M.rel (by omega : (0 : Nat) ≠ 1) T (.inl hA) (.inr ⟨hh, x', old, hE, hn, hold⟩) hx hsl hc2 hl2 hb (.inl h8)
      refine ⟨v', w', g1, Rel.aft (ws := { k := .a pl.k, v := V.dead } :: ws) (g5 hh) (M.mono.trans g2) hd (m := 0) (.one (.appd g4 hh ?_ ?_ (fun _ _ => g3)))⟩
      · rw [hgg]; exact St.γ_wrs_le S0 _ _
      · show (S0.γ (.a pl.k)) + 1 ≤ ((S0.wrs ws).wr { k := .a pl.k, v := V.dead }).γ (.a pl.k)
        rw [St.γ_wr, f2]; simp
  · cases hr
end
end
end Go.Abs
