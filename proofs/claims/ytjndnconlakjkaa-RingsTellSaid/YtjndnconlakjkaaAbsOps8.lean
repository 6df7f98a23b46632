/- Operations that make slices. -/
import Derived.Test.YtjndnconlakjkaaAbsOps7
set_option linter.unusedVariables false
set_option linter.unusedSimpArgs false
namespace Go.Abs
section
variable {nm : FuncId → Option Nat} {N : Nat} {S S0 : St} {a : Act} {w w0 : World} {L L0 : LabF} {P : Program} {o : Oper} {Cl : Oracle} {d : Nat} {r : V × List Wr} {ws : List Wr}

/-- A new slice of one's own, under way; the world behind it may bear marks. -/
theorem Rel.newRowW {S : St} (h : Rel nm N S a w L) {m j : Nat} (hm : ∀ B o, L B ≠ some (.row ⟨.h m, j, []⟩ o)) {w' : World} {cur : Array Value} {e : TypeId} {fz : Nat × Nat} {rows : List (List D)} {val : Nat → Nat → Value} {sz cap : Nat}
    (hw : w'.heap[w.heap.size]? = some (.cells cur e fz)) (ho : ∀ B, B ≠ w.heap.size → w'.heap[B]? = w.heap[B]?) (hfz : unfroz cur.size fz) (hmo : w'.os = w.os ∧ w'.tape = w.tape ∧ w'.output = w.output ∧ w.heap.size ≤ w'.heap.size)
    (hsz : 0 < sz) (hlen : ∀ r ∈ rows, r.length = sz) (hcap : rows.length ≤ cap) (hroom : cap * sz ≤ cur.size) (hv : Lies rows sz 0 cur val) (hc : Cont w L ⟨.h m, j, []⟩ rows val) :
    Rel nm N S a w' (L.put w.heap.size (.row ⟨.h m, j, []⟩ 0)) ∧ Mono w w' L (L.put w.heap.size (.row ⟨.h m, j, []⟩ 0)) ∧
      RepC nm w' (L.put w.heap.size (.row ⟨.h m, j, []⟩ 0)) S.γ (.h m) j (.d (.sl .own sz rows)) (.slice (some ⟨w.heap.size, 0, none⟩) rows.length cap) := by
  have hne : ∀ B l, L B = some l → B ≠ w.heap.size := fun B l hB e => by rw [e, h.dom.new] at hB; cases hB
  refine ⟨?_, ⟨hmo.1, hmo.2.1, hmo.2.2.1, hmo.2.2.2, fun B hB => ⟨by rw [LabF.put_other (hne B _ hB)]; exact hB, ho B (hne B _ hB)⟩, fun B hlt hB => ⟨by rw [LabF.put_other (by omega)]; exact hB, ho B (by omega)⟩, fun B i o hB => by rw [LabF.put_other (hne B _ hB)]; exact hB⟩, ?_⟩
  · refine h.grow (fun B l hB => ho B (hne B l hB)) (fun B l hB => by rw [LabF.put_other (hne B l hB)]; exact hB) ?_ ?_ ?_
    · intro B l hB
      by_cases he : B = w.heap.size
      · subst he; exact ⟨cur, e, fz, hw⟩
      · rw [LabF.put_other he] at hB
        rw [ho B he]
        exact h.dom B l hB
    · intro B B' pl o o' h1 h2
      by_cases he : B = w.heap.size
      · by_cases he' : B' = w.heap.size
        · rw [he, he']
        · subst he
          rw [LabF.put_same] at h1
          rw [LabF.put_other he'] at h2
          simp only [Option.some.injEq, Lab.row.injEq] at h1
          rw [← h1.1] at h2
          exact absurd h2 (hm B' o')
      · rw [LabF.put_other he] at h1
        by_cases he' : B' = w.heap.size
        · subst he'
          rw [LabF.put_same] at h2
          simp only [Option.some.injEq, Lab.row.injEq] at h2
          rw [← h2.1] at h1
          exact absurd h1 (hm B o)
        · rw [LabF.put_other he'] at h2
          exact h.rowInj B B' pl o o' h1 h2
    · intro B B' r o o' h1 h2
      by_cases he : B = w.heap.size
      · subst he; rw [LabF.put_same] at h1; simp at h1
      · by_cases he' : B' = w.heap.size
        · subst he'; rw [LabF.put_same] at h2; simp at h2
        · rw [LabF.put_other he] at h1
          rw [LabF.put_other he'] at h2
          exact h.boxInj B B' r o o' h1 h2
  · refine .d (.own val hsz (LabF.put_same _ _ _) hw hfz hlen hcap (by omega) (by simpa [Lies] using hv) ?_)
    intro i c x hx
    exact RepD.move id (fun _ => True) (fun _ _ _ _ => trivial) (fun _ _ _ _ => rfl) (fun B hB => ⟨by rw [LabF.put_other (hne B _ hB)]; exact hB, ho B (hne B _ hB)⟩)
      (fun B q o _ hB => ⟨by rw [LabF.put_other (hne B _ hB)]; exact hB, ho B (hne B _ hB)⟩) (hc i c x hx) trivial

theorem dataL_inv : ∀ {l : List C} {r : List D}, dataL l = some r → l = r.map .d
  | [], r, h => by simp only [dataL, Option.some.injEq] at h; subst h; rfl
  | c :: l, r, h => by
    cases c with
    | d x =>
      simp only [dataL] at h
      cases hl : dataL l with
      | none => simp [hl] at h
      | some t => simp only [hl, Option.map_some, Option.some.injEq] at h; subst h; rw [dataL_inv hl]; rfl
    | _ => simp [dataL] at h

theorem ConstC.plain {x : D} {u : Value} (h : ConstC (.d x) u) (w : World) (L : LabF) : RepP w L x u := by
  have h1 := h.rep (nm := fun _ => none) w L (fun _ => 0) (.s 0) 0
  have h2 := h.own
  cases h1 with
  | d h1 =>
    cases h1 with
    | plain h1 => exact h1
    | ownE => simp [C.own] at h2
    | own => simp [C.own] at h2

/-- Rows of zeros. -/
theorem zero_rows {zs : List C} {row : List D} {z : Value} {n m : Nat} (hd : dataL zs = some row) (hz : z.cells.size = zs.length) (hc : ∀ (j : Nat) c u, zs[j]? = some c → z.cells[j]? = some u → ConstC c u) (hnm : n ≤ m) (hz0 : zs.length ≠ 0) :
    (∀ r ∈ List.replicate n row, r.length = zs.length) ∧ ∀ i c x, cellOf (List.replicate n row) i c = some x → ∃ u, (madeCells z.cells (m * zs.length))[i * zs.length + c]? = some u ∧ ConstC (.d x) u := by
  have hrow := dataL_inv hd
  have hrl : row.length = zs.length := by rw [hrow]; simp
  refine ⟨fun r hr => by rw [List.eq_of_mem_replicate hr, hrl], ?_⟩
  intro i c x hx
  obtain ⟨r, h1, h2⟩ := cellOf_some.1 hx
  have hi : i < n := by have := (List.getElem?_eq_some_iff.1 h1).1; simpa using this
  have hr : r = row := by
    rw [List.getElem?_replicate, if_pos hi] at h1
    exact (Option.some.inj h1).symm
  subst hr
  have hcl : c < zs.length := by rw [← hrl]; exact (List.getElem?_eq_some_iff.1 h2).1
  have hlt : i * zs.length + c < m * zs.length := idx_lt (by omega) hcl
  have hmod : (i * zs.length + c) % zs.length = c := by rw [Nat.mul_comm, Nat.mul_add_mod]; exact Nat.mod_eq_of_lt hcl
  have hcz : c < z.cells.size := by omega
  have hzc : zs[c]? = some (.d x) := by rw [hrow, List.getElem?_map, h2]; rfl
  refine ⟨z.cells[c], ?_, hc c (.d x) _ hzc (Array.getElem?_eq_getElem hcz)⟩
  unfold madeCells
  rw [Array.getElem?_map, Array.getElem?_range, if_pos hlt]
  simp only [Option.map_some, hz, hmod]
  rw [getElem!_pos z.cells c hcz]

/-- Cells of a part come into a row. -/
def rowTo (i sz : Nat) : Place → Option Place := fun q =>
  if q.k = .h 1 then (if q.j < sz then some ⟨.h 0, 0, (i, q.j) :: q.p⟩ else none)
  else if q.k = .h 0 ∧ q.j = 0 then (match q.p with | (i', _) :: _ => if i' = i then none else some q | [] => some q)
  else some q

theorem rowTo_cases {i sz : Nat} {q t : Place} (h : rowTo i sz q = some t) : (q.k = .h 1 ∧ q.j < sz ∧ t = ⟨.h 0, 0, (i, q.j) :: q.p⟩) ∨ (q.k ≠ .h 1 ∧ (∀ c r, ¬ (q.k = .h 0 ∧ q.j = 0 ∧ q.p = (i, c) :: r)) ∧ t = q) := by
  unfold rowTo at h
  split at h
  · split at h
    · simp only [Option.some.injEq] at h; exact .inl ⟨‹_›, ‹_›, h.symm⟩
    · cases h
  · rename_i h1
    split at h
    · rename_i h2
      split at h
      · rename_i i' c' r' hp
        split at h
        · cases h
        · rename_i hne
          simp only [Option.some.injEq] at h
          exact .inr ⟨h1, fun c r e => hne (by have := e.2.2; rw [hp] at this; simp only [List.cons.injEq, Prod.mk.injEq] at this; exact this.1.1), h.symm⟩
      · rename_i hp
        simp only [Option.some.injEq] at h
        exact .inr ⟨h1, (fun c r e => by have := e.2.2; rw [hp] at this; cases this), h.symm⟩
    · rename_i h2
      simp only [Option.some.injEq] at h
      exact .inr ⟨h1, fun c r e => h2 ⟨e.1, e.2.1⟩, h.symm⟩
theorem rowTo_inj {i sz : Nat} {q q' t : Place} (h1 : rowTo i sz q = some t) (h2 : rowTo i sz q' = some t) : q = q' := by
  rcases rowTo_cases h1 with ⟨a1, a2, a3⟩ | ⟨a1, a2, a3⟩ <;> rcases rowTo_cases h2 with ⟨b1, b2, b3⟩ | ⟨b1, b2, b3⟩
  · rw [a3] at b3
    simp only [Place.mk.injEq, List.cons.injEq, Prod.mk.injEq, true_and] at b3
    cases q; cases q'; simp_all
  · exact absurd (by rw [← b3, a3]; exact ⟨rfl, rfl, rfl⟩) (b2 q.j q.p)
  · exact absurd (by rw [← a3, b3]; exact ⟨rfl, rfl, rfl⟩) (a2 q'.j q'.p)
  · rw [← a3, ← b3]
theorem rowTo_fix {i sz : Nat} {q : Place} (h : q.k.isPl = true) : rowTo i sz q = some q := by
  unfold rowTo
  rw [if_neg (fun e => by rw [e] at h; simp [Key.isPl] at h), if_neg (fun e => by rw [e.1] at h; simp [Key.isPl] at h)]
theorem rowTo_back {i sz : Nat} {q t : Place} (h : rowTo i sz q = some t) (ht : t.k.isPl = true) : q = t := by
  rcases rowTo_cases h with ⟨_, _, rfl⟩ | ⟨_, _, h⟩
  · simp [Key.isPl] at ht
  · exact h.symm

def ElemsOk (nm : FuncId → Option Nat) : List (Nat × Abs.X) → List (Nat × Operand) → Prop
  | [], [] => True
  | (i, X) :: t, (i', x) :: t' => i = i' ∧ OpRel nm X x ∧ X.okC = true ∧ ElemsOk nm t t'
  | _, _ => False

theorem evRows_rep (R0 : Rel nm N S0 a w0 L0) {sz : Nat} (hsz : 0 < sz) : ∀ (parts : List (Nat × Abs.X)) (ps : List (Nat × Operand)) {ws : List Wr} {L : LabF} {rows : List (List D)} {vs : Array Value} (M : Mid nm N S0 w0 L0 ws a w L) (hf : FreeH L 1) (hm : ∀ B o, L B ≠ some (.row ⟨.h 0, 0, []⟩ o))
    (hl : rows.length * sz = vs.size) (hlen : ∀ r ∈ rows, r.length = sz) (hc : ∀ i c x, cellOf rows i c = some x → ∃ u, vs[i * sz + c]? = some u ∧ RepD w L ⟨.h 0, 0, [(i, c)]⟩ x u) (hp : ElemsOk nm parts ps) {r : List (List D) × List Wr} (hr : (evRows sz ws rows parts).run S0 = some r),
    ∃ L' vs', Instr.fill (fun i => some (i * sz, sz)) vs (ps.map fun p => (p.1, a.eval p.2)) = some vs' ∧ Mid nm N S0 w0 L0 r.2 a w L' ∧ (∀ B o, L' B ≠ some (.row ⟨.h 0, 0, []⟩ o)) ∧ r.1.length = rows.length ∧ vs'.size = vs.size ∧ (∀ r' ∈ r.1, r'.length = sz) ∧
      ∀ i c x, cellOf r.1 i c = some x → ∃ u, vs'[i * sz + c]? = some u ∧ RepD w L' ⟨.h 0, 0, [(i, c)]⟩ x u
  | [], [], ws, L, rows, vs, M, hf, hm, hl, hlen, hc, hp, r, hr => by
    simp only [evRows] at hr
    obtain rfl := Q.run_pure_some hr
    exact ⟨L, vs, rfl, M, hm, rfl, rfl, hlen, hc⟩
  | (i, X) :: parts, (i', x) :: ps, ws, L, rows, vs, M, hf, hm, hl, hlen, hc, hp, r, hr => by
    obtain ⟨rfl, hx, hok, hp⟩ := hp
    simp only [evRows] at hr
    obtain ⟨⟨v, ws1⟩, h1, h2⟩ := Q.run_bind_some hr
    clear hr
    obtain ⟨⟨cs, ws2⟩, h3, h4⟩ := Q.run_bind_some h2
    clear h2
    obtain ⟨row, h5, h6⟩ := Q.run_ofO_some h4
    clear h4
    obtain ⟨hg, h7⟩ := Q.run_guard_some h6
    clear h6
    simp only [Bool.and_eq_true, beq_iff_eq, decide_eq_true_eq] at hg
    obtain ⟨hrl, hi⟩ := hg
    have hcs := dataL_inv h5
    have hcl : cs.length = sz := by simp only at hcs; rw [hcs]; simp [hrl]
    obtain ⟨L1, O1, hl1, hc1⟩ := part_rep M R0 hf hx hok h1 h3 (by omega)
    obtain ⟨M2, hst⟩ := O1.mid.relabH (f := rowTo i sz) (fun q hq => rowTo_fix hq) (fun q t h ht => rowTo_back h ht) (fun q q' t a b => rowTo_inj a b)
    have hf2 : FreeH (relab (rowTo i sz) L1) 1 := by
      intro B q o hB e
      obtain ⟨q0, _, h2⟩ := relab_row hB
      rcases rowTo_cases h2 with ⟨_, _, h⟩ | ⟨h6, _, h⟩
      · rw [h] at e; simp at e
      · rw [h] at e; exact h6 e
    have hm2 : ∀ B o, relab (rowTo i sz) L1 B ≠ some (.row ⟨.h 0, 0, []⟩ o) := by
      intro B o hB
      obtain ⟨q0, h8, h2⟩ := relab_row hB
      rcases rowTo_cases h2 with ⟨_, _, h⟩ | ⟨h6, _, h⟩
      · simp at h
      · rw [← h] at h8
        exact hm B o (O1.onlyH B _ o rfl (by simp) h8)
    obtain ⟨u1, u2⟩ := upd_spec vs (i * sz) (a.eval x).cells
    have hile : i * sz + sz ≤ vs.size := by
      have : (i + 1) * sz ≤ rows.length * sz := Nat.mul_le_mul_right _ hi
      rw [Nat.add_mul] at this; omega
    have hlen2 : ∀ r ∈ rows.set i row, r.length = sz := by
      intro r hr
      rcases List.mem_or_eq_of_mem_set hr with h | h
      · exact hlen r h
      · rw [h]; exact hrl
    have hcell : ∀ i' c y, cellOf (rows.set i row) i' c = some y → (i' = i ∧ row[c]? = some y) ∨ (i' ≠ i ∧ cellOf rows i' c = some y) := by
      intro i' c y hy
      obtain ⟨rr, k1, k2⟩ := cellOf_some.1 hy
      rw [List.getElem?_set] at k1
      by_cases he : i = i'
      · subst he
        rw [if_pos rfl, if_pos hi] at k1
        simp only [Option.some.injEq] at k1
        rw [k1]
        exact .inl ⟨rfl, k2⟩
      · rw [if_neg he] at k1
        exact .inr ⟨fun e => he e.symm, cellOf_some.2 ⟨rr, k1, k2⟩⟩
    obtain ⟨L', vs', g1, g2, g3, g4, g5, g6, g7⟩ := evRows_rep R0 hsz parts ps (rows := rows.set i row) (vs := upd vs (i * sz) (a.eval x).cells) M2 hf2 hm2 (by rw [List.length_set, u1]; exact hl) hlen2 (by
      intro i' c y hy
      have hlt := cellOf_lt hlen2 hy
      rw [List.length_set] at hlt
      have hidx := idx_lt hlt.1 hlt.2
      rw [hl] at hidx
      rw [u2 _ hidx, ← hl1, hcl]
      rcases hcell i' c y hy with ⟨rfl, hrow⟩ | ⟨hne, hold⟩
      · have hcd : cs[c]? = some (.d y) := by simp only at hcs; rw [hcs]; simp [hrow]
        have hcu : c < (a.eval x).cells.size := by omega
        refine ⟨(a.eval x).cells[c], ?_, ?_⟩
        · rw [if_pos ⟨by omega, by omega⟩, show i' * sz + c - i' * sz = c by omega]
          simp [hcu]
        · have h9 := hc1 c (.d y) _ hcd (Array.getElem?_eq_getElem hcu)
          cases h9 with
          | d h9 =>
            have := RepD.move (w' := w) (L' := relab (rowTo i' sz) L1) (fun q => ⟨.h 0, 0, (i', q.j) :: q.p⟩) (fun q => q.k = .h 1 ∧ q.j = c) (fun _ _ _ h => h) (fun _ _ _ _ => rfl) (fun B hB => ⟨relab_imm.2 hB, rfl⟩)
              (fun B q o hq hL => ⟨relab_of_row hL (by unfold rowTo; rw [if_pos hq.1, if_pos (by rw [hq.2]; exact hlt.2)]), rfl⟩) h9 ⟨rfl, rfl⟩
            exact this
      · have hnin : ¬ (i * sz ≤ i' * sz + c ∧ i' * sz + c < i * sz + sz) := by
          rintro ⟨k1, k2⟩
          rcases Nat.lt_or_gt_of_ne hne with h | h
          · have : (i' + 1) * sz ≤ i * sz := Nat.mul_le_mul_right _ h
            rw [Nat.add_mul] at this; omega
          · have : (i + 1) * sz ≤ i' * sz := Nat.mul_le_mul_right _ h
            rw [Nat.add_mul] at this; omega
        rw [if_neg hnin]
        obtain ⟨u, k1, k2⟩ := hc i' c y hold
        refine ⟨u, k1, ?_⟩
        have k3 : RepD w L1 ⟨.h 0, 0, [(i', c)]⟩ y u := by
          refine RepD.move id (fun q => q.k = .h 0) (fun _ _ _ h => h) (fun _ _ _ _ => rfl) O1.stp.imm (fun B q o hq hL => ⟨O1.keepH B q o (by rw [hq]; rfl) (by rw [hq]; simp) hL, rfl⟩) k2 rfl
        refine RepD.move id (fun q => ∃ r, q = ⟨.h 0, 0, (i', c) :: r⟩) (by rintro q a b ⟨r, rfl⟩; exact ⟨r ++ [(a, b)], rfl⟩) (fun _ _ _ _ => rfl) (fun B hB => ⟨relab_imm.2 hB, rfl⟩) ?_ k3 ⟨[], rfl⟩
        rintro B q o ⟨r, rfl⟩ hL
        refine ⟨relab_of_row hL ?_, rfl⟩
        unfold rowTo
        rw [if_neg (by simp), if_pos ⟨rfl, rfl⟩]
        simp only [id, hne, if_false]) hp h7
    refine ⟨L', vs', ?_, g2, g3, by rw [g4, List.length_set], by rw [g5, u1], g6, g7⟩
    simp only [List.map_cons, Instr.fill]
    rw [if_neg (by simp; omega)]
    exact g1
  | [], _ :: _, _, _, _, _, _, _, _, _, _, _, hp, _, _ => hp.elim
  | (_, _) :: _, [], _, _, _, _, _, _, _, _, _, _, hp, _, _ => hp.elim

theorem fin_row {rows : List (List D)} {sz : Nat} {vs : Array Value} (hc : ∀ i c x, cellOf rows i c = some x → ∃ u, vs[i * sz + c]? = some u ∧ RepD w L ⟨.h 0, 0, [(i, c)]⟩ x u) :
    ∃ val, Lies rows sz 0 vs val ∧ Cont w L ⟨.h 0, 0, []⟩ rows val := by
  refine ⟨fun i c => vs.getD (i * sz + c) undef, ?_, ?_⟩
  · intro i c x hx
    obtain ⟨u, h1, _⟩ := hc i c x hx
    rw [Nat.zero_add, h1]
    simp [Array.getD_eq_getD_getElem?, h1]
  · intro i c x hx
    obtain ⟨u, h1, h2⟩ := hc i c x hx
    simp only [Array.getD_eq_getD_getElem?, h1, Option.getD_some]
    exact h2

theorem ev_bslice (R : Rel nm N S a w L) (hH : NoH L) (hd : ∀ d, o.dst = some d → d < N) {t e : TypeId} {len : Nat} {parts : Array (Nat × Operand)} {zs : List C} {row : List D} {ps : List (Nat × Abs.X)} (ho : o.op = .buildSlice t len parts) (ht : P.underlying t = some (.slice e)) (hz : zeroC P e = some zs) (hdz : dataL zs = some row)
    (hsmall : ¬ (len * zs.length > 2 ^ 24)) (hz0 : zs.length ≠ 0) (hp : ElemsOk nm ps parts.toList)
    (hr : (evOp Cl d (.bslice zs.length (List.replicate len row) ps)).run S = some r) : OpsTo P a w o (Aft nm N S w L a o.dst r.1 r.2) := by
  simp only [evOp] at hr
  obtain ⟨⟨rs, ws1⟩, h1, h2⟩ := Q.run_bind_some hr
  clear hr
  obtain rfl := Q.run_pure_some h2
  obtain ⟨i, z, k1, k2, k3, k4, k5⟩ := zeroC_inv hz
  have hfree : ∀ m, FreeH L m := fun m B q o hB e => by have := hH B q o hB; rw [e] at this; simp [Key.isPl] at this
  obtain ⟨z1, z2⟩ := zero_rows (n := len) (m := len) hdz k3 k5 (Nat.le_refl _) hz0
  obtain ⟨L', vs', g1, g2, g3, g4, g5, g6, g7⟩ := evRows_rep R (Nat.pos_of_ne_zero hz0) ps parts.toList (Mid.init R) (hfree 1) (fun B o hB => hfree 0 B _ o hB rfl) (rows := List.replicate len row) (vs := madeCells z.cells (len * zs.length))
    (by rw [size_madeCells, List.length_replicate]) z1 (fun i c x hx => by
      obtain ⟨u, h3, h4⟩ := z2 i c x hx
      exact ⟨u, h3, .plain (h4.plain w L)⟩) hp h1
  obtain ⟨val, hv, hcont⟩ := fin_row g7
  simp only [List.length_replicate] at g4
  obtain ⟨hR, hM, hrep⟩ := g2.rel.newRowW (m := 0) (j := 0) (w' := w.alloc (.cells vs' e)) (cap := len) g3 (heap_alloc_self w _) (fun B hB => heap_alloc_lt w _ hB) (fun j _ => by simp) ⟨rfl, rfl, rfl, by simp⟩ (Nat.pos_of_ne_zero hz0) g6 (by rw [g4]; exact Nat.le_refl _) (by rw [g5, size_madeCells]; exact Nat.le_refl _) hv hcont
  refine .val (v := .slice (some ⟨w.heap.size, 0, none⟩) len len) (w' := w.alloc (.cells vs' e)) ?_ (hR.aft (g2.mono.trans hM) hd (m := 0) (.one (by rw [← g4]; rw [← g4] at hrep; exact hrep)))
  have hi : i.size = zs.length := by omega
  have : (Instr.buildSlice t len (parts.map fun (i, x) => (i, a.eval x))).run P w = .ok (.slice (some ⟨w.heap.size, 0, none⟩) len len) (w.alloc (.cells vs' e)) := by
    have hpe : (parts.map fun (i, x) => (i, a.eval x)).toList = parts.toList.map fun p => (p.1, a.eval p.2) := by simp
    have hs2 : ¬ (16777216 < len * zs.length) := by omega
    unfold Instr.buildSlice
    simp only [Sem.run_bind, run_underlying ht, Result.andThen_ok, sizeOf, typeInfo, run_program, k1, Sem.run_pure, hi]
    have hgt : ¬ (len * zs.length > 2 ^ 24) := hsmall
    by_cases h0 : len * zs.length = 0
    · have hm0 : madeCells z.cells (len * zs.length) = #[] := by rw [h0]; simp [madeCells]
      rw [hm0] at g1
      simp only [hgt, if_false, h0, if_true, Sem.run_pure, Result.andThen_ok, Sem.run_bind]
      simp only [Array.range_zero', hpe]
      have : ((Array.range 0).map fun x => (#[] : Array Value)[x % (#[] : Array Value).size]!) = #[] := by simp
      simp [g1, newRow]
    · simp only [hgt, if_false, h0, Sem.run_bind, zeroValue, typeInfo, run_program, k1, k2, Result.andThen_ok, Sem.run_pure]
      have hmade : ((Array.range (len * zs.length)).map fun x => z.cells[x % z.cells.size]!) = madeCells z.cells (len * zs.length) := rfl
      simp [hpe, hmade, g1, newRow]
  simp [execOp, ho, this]
end
end Go.Abs
