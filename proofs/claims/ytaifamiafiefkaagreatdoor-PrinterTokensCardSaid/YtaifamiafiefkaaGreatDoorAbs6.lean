/- An evaluator of the model's code over plain data, and that what it answers the model does: part 7 of 11. -/
import Derived.Test.YtaifamiafiefkaaGreatDoorAbs5
import Derived.Lib.UnsafeStr
set_option linter.unusedVariables false
set_option linter.unusedSimpArgs false
namespace Go.Abs
section
section
variable {nm : FuncId → Option Nat} {N : Nat} {S S0 : St} {a : Act} {w w0 : World} {L L0 : LabF} {P : Program} {o : Oper} {Cl : Oracle} {d : Nat} {r : V × List Wr} {ws : List Wr}
theorem Rel.newRowW {S : St} (h : Rel nm N S a w L) {m j : Nat} (hm : ∀ B o, L B ≠ some (.row ⟨.h m, j, []⟩ o)) {w' : World} {cur : Array Value} {e : TypeId} {fz : Nat × Nat} {rows : List (List D)} {val : Nat → Nat → Value} {sz cap : Nat}
    (hw : w'.heap[w.heap.size]? = some (.cells cur e fz)) (ho : ∀ B, B ≠ w.heap.size → w'.heap[B]? = w.heap[B]?) (hfz : unfroz cur.size fz) (hmo : w'.os = w.os ∧ w'.tape = w.tape ∧ w'.output = w.output ∧ w.heap.size ≤ w'.heap.size)
    (hsz : 0 < sz) (hlen : ∀ r ∈ rows, r.length = sz) (hcap : rows.length ≤ cap) (hroom : cap * sz ≤ cur.size) (hv : Lies rows sz 0 cur val) (hc : Cont w L ⟨.h m, j, []⟩ rows val) (hu8 : U8At rows e) :
    Rel nm N S a w' (L.put w.heap.size (.row ⟨.h m, j, []⟩ 0)) ∧ Mono w w' L (L.put w.heap.size (.row ⟨.h m, j, []⟩ 0)) ∧
      RepC nm w' (L.put w.heap.size (.row ⟨.h m, j, []⟩ 0)) S.γ (.h m) j (.d (.sl .own sz rows)) (.slice (some ⟨w.heap.size, 0, none⟩) rows.length cap) := by
  have hne : ∀ B l, L B = some l → B ≠ w.heap.size := fun B l hB e => by rw [e, h.dom.new] at hB; cases hB
  refine ⟨?_, ⟨hmo.1, hmo.2.1, hmo.2.2.1, hmo.2.2.2, fun B hB => ⟨by rw [LabF.put_other (hne B _ hB)]; exact hB, ho B (hne B _ hB)⟩, fun B hlt hB => ⟨by rw [LabF.put_other (by omega)]; exact hB, ho B (by omega)⟩, fun B i o hB => by rw [LabF.put_other (hne B _ hB)]; exact hB⟩, ?_⟩
  · refine h.grow (fun B l hB => ho B (hne B l hB)) (fun B l hB => by rw [LabF.put_other (hne B l hB)]; exact hB) ?_ ?_ ?_
    · intro B l hB
      by_cases he : B = w.heap.size
      · subst he; exact (Array.getElem?_eq_some_iff.1 hw).1
      · rw [LabF.put_other he] at hB
        exact heap_lt (h.dom B l hB) (ho B he)
    · intro B B' pl o o' h1 h2
      by_cases he : B = w.heap.size
      · by_cases he' : B' = w.heap.size
        · rw [he, he']
        · subst he
          rw [LabF.put_same] at h1
          rw [LabF.put_other he'] at h2
          simp only [Option.some.injEq, Lab.row.injEq] at h1
          rw [← h1.1] at h2
          exact absurd h2 (hm B' o')
      · rw [LabF.put_other he] at h1
        by_cases he' : B' = w.heap.size
        · subst he'
          rw [LabF.put_same] at h2
          simp only [Option.some.injEq, Lab.row.injEq] at h2
          rw [← h2.1] at h1
          exact absurd h1 (hm B o)
        · rw [LabF.put_other he'] at h2
          exact h.rowInj B B' pl o o' h1 h2
    · intro B B' r o o' h1 h2
      by_cases he : B = w.heap.size
      · subst he; rw [LabF.put_same] at h1; simp at h1
      · by_cases he' : B' = w.heap.size
        · subst he'; rw [LabF.put_same] at h2; simp at h2
        · rw [LabF.put_other he] at h1
          rw [LabF.put_other he'] at h2
          exact h.boxInj B B' r o o' h1 h2
  · refine .d (.own val hsz (LabF.put_same _ _ _) hw hfz hlen hcap (by omega) (by simpa [Lies] using hv) ?_ hu8)
    intro i c x hx
    exact RepD.move id (fun _ => True) (fun _ _ _ _ => trivial) (fun _ _ _ _ => rfl) (fun B hB => ⟨by rw [LabF.put_other (hne B _ hB)]; exact hB, ho B (hne B _ hB)⟩)
      (fun B q o _ hB => ⟨by rw [LabF.put_other (hne B _ hB)]; exact hB, ho B (hne B _ hB)⟩) (hc i c x hx) trivial
theorem dataL_inv : ∀ {l : List C} {r : List D}, dataL l = some r → l = r.map .d
  | [], r, h => by simp only [dataL, Option.some.injEq] at h; subst h; rfl
  | c :: l, r, h => by
    cases c with
    | d x =>
      simp only [dataL] at h
      cases hl : dataL l with
      | none => simp [hl] at h
      | some t => simp only [hl, Option.map_some, Option.some.injEq] at h; subst h; rw [dataL_inv hl]; rfl
    | _ => simp [dataL] at h
theorem ConstC.plain {x : D} {u : Value} (h : ConstC (.d x) u) (w : World) (L : LabF) : RepP w L x u := by
  have h1 := h.rep (nm := fun _ => none) w L (fun _ => 0) (.s 0) 0
  have h2 := h.own
  cases h1 with
  | d h1 =>
    cases h1 with
    | plain h1 => exact h1
    | ownE => simp [C.own] at h2
    | own => simp [C.own] at h2
theorem zero_rows {zs : List C} {row : List D} {z : Value} {n m : Nat} (hd : dataL zs = some row) (hz : z.cells.size = zs.length) (hc : ∀ (j : Nat) c u, zs[j]? = some c → z.cells[j]? = some u → ConstC c u) (hnm : n ≤ m) (hz0 : zs.length ≠ 0) :
    (∀ r ∈ List.replicate n row, r.length = zs.length) ∧ ∀ i c x, cellOf (List.replicate n row) i c = some x → ∃ u, (madeCells z.cells (m * zs.length))[i * zs.length + c]? = some u ∧ ConstC (.d x) u := by
  have hrow := dataL_inv hd
  have hrl : row.length = zs.length := by rw [hrow]; simp
  refine ⟨fun r hr => by rw [List.eq_of_mem_replicate hr, hrl], ?_⟩
  intro i c x hx
  obtain ⟨r, h1, h2⟩ := cellOf_some.1 hx
  have hi : i < n := by have := (List.getElem?_eq_some_iff.1 h1).1; simpa using this
  have hr : r = row := by
    rw [List.getElem?_replicate, if_pos hi] at h1
    exact (Option.some.inj h1).symm
  subst hr
  have hcl : c < zs.length := by rw [← hrl]; exact (List.getElem?_eq_some_iff.1 h2).1
  have hlt : i * zs.length + c < m * zs.length := idx_lt (by omega) hcl
  have hmod : (i * zs.length + c) % zs.length = c := by rw [Nat.mul_comm, Nat.mul_add_mod]; exact Nat.mod_eq_of_lt hcl
  have hcz : c < z.cells.size := by omega
  have hzc : zs[c]? = some (.d x) := by rw [hrow, List.getElem?_map, h2]; rfl
  refine ⟨z.cells[c], ?_, hc c (.d x) _ hzc (Array.getElem?_eq_getElem hcz)⟩
  unfold madeCells
  rw [Array.getElem?_map, Array.getElem?_range, if_pos hlt]
  simp only [Option.map_some, hz, hmod]
  rw [getElem!_pos z.cells c hcz]
def rowTo (i sz : Nat) : Place → Option Place := fun q =>
  if q.k = .h 1 then (if q.j < sz then some ⟨.h 0, 0, (i, q.j) :: q.p⟩ else none)
  else if q.k = .h 0 ∧ q.j = 0 then (match q.p with | (i', _) :: _ => if i' = i then none else some q | [] => some q)
  else some q
theorem rowTo_cases {i sz : Nat} {q t : Place} (h : rowTo i sz q = some t) : (q.k = .h 1 ∧ q.j < sz ∧ t = ⟨.h 0, 0, (i, q.j) :: q.p⟩) ∨ (q.k ≠ .h 1 ∧ (∀ c r, ¬ (q.k = .h 0 ∧ q.j = 0 ∧ q.p = (i, c) :: r)) ∧ t = q) := by
  unfold rowTo at h
  split at h
  · split at h
    · simp only [Option.some.injEq] at h; exact .inl ⟨‹_›, ‹_›, h.symm⟩
    · cases h
  · rename_i h1
    split at h
    · rename_i h2
      split at h
      · rename_i i' c' r' hp
        split at h
        · cases h
        · rename_i hne
          simp only [Option.some.injEq] at h
          exact .inr ⟨h1, fun c r e => hne (by have := e.2.2; rw [hp] at this; simp only [List.cons.injEq, Prod.mk.injEq] at this; exact this.1.1), h.symm⟩
      · rename_i hp
        simp only [Option.some.injEq] at h
        exact .inr ⟨h1, (fun c r e => by have := e.2.2; rw [hp] at this; cases this), h.symm⟩
    · rename_i h2
      simp only [Option.some.injEq] at h
      exact .inr ⟨h1, fun c r e => h2 ⟨e.1, e.2.1⟩, h.symm⟩
theorem rowTo_inj {i sz : Nat} {q q' t : Place} (h1 : rowTo i sz q = some t) (h2 : rowTo i sz q' = some t) : q = q' := by
  rcases rowTo_cases h1 with ⟨a1, a2, a3⟩ | ⟨a1, a2, a3⟩ <;> rcases rowTo_cases h2 with ⟨b1, b2, b3⟩ | ⟨b1, b2, b3⟩
  · rw [a3] at b3
    simp only [Place.mk.injEq, List.cons.injEq, Prod.mk.injEq, true_and] at b3
    cases q; cases q'; simp_all
  · exact absurd (by rw [← b3, a3]; exact ⟨rfl, rfl, rfl⟩) (b2 q.j q.p)
  · exact absurd (by rw [← a3, b3]; exact ⟨rfl, rfl, rfl⟩) (a2 q'.j q'.p)
  · rw [← a3, ← b3]
theorem rowTo_fix {i sz : Nat} {q : Place} (h : q.k.isPl = true) : rowTo i sz q = some q := by
  unfold rowTo
  rw [if_neg (fun e => by rw [e] at h; simp [Key.isPl] at h), if_neg (fun e => by rw [e.1] at h; simp [Key.isPl] at h)]
theorem rowTo_back {i sz : Nat} {q t : Place} (h : rowTo i sz q = some t) (ht : t.k.isPl = true) : q = t := by
  rcases rowTo_cases h with ⟨_, _, rfl⟩ | ⟨_, _, h⟩
  · simp [Key.isPl] at ht
  · exact h.symm
def ElemsOk (nm : FuncId → Option Nat) : List (Nat × Abs.X) → List (Nat × Operand) → Prop
  | [], [] => True
  | (i, X) :: t, (i', x) :: t' => i = i' ∧ OpRel nm X x ∧ X.okC = true ∧ ElemsOk nm t t'
  | _, _ => False
theorem evRows_rep (R0 : Rel nm N S0 a w0 L0) {sz : Nat} (hsz : 0 < sz) : ∀ (parts : List (Nat × Abs.X)) (ps : List (Nat × Operand)) {ws : List Wr} {L : LabF} {rows : List (List D)} {vs : Array Value} (M : Mid nm N S0 w0 L0 ws a w L) (hf : FreeH L 1) (hm : ∀ B o, L B ≠ some (.row ⟨.h 0, 0, []⟩ o))
    (hl : rows.length * sz = vs.size) (hlen : ∀ r ∈ rows, r.length = sz) (hc : ∀ i c x, cellOf rows i c = some x → ∃ u, vs[i * sz + c]? = some u ∧ RepD w L ⟨.h 0, 0, [(i, c)]⟩ x u) (hp : ElemsOk nm parts ps) {r : List (List D) × List Wr} (hr : (evRows sz ws rows parts).run S0 = some r),
    ∃ L' vs', Instr.fill (fun i => some (i * sz, sz)) vs (ps.map fun p => (p.1, a.eval p.2)) = some vs' ∧ Mid nm N S0 w0 L0 r.2 a w L' ∧ (∀ B o, L' B ≠ some (.row ⟨.h 0, 0, []⟩ o)) ∧ r.1.length = rows.length ∧ vs'.size = vs.size ∧ (∀ r' ∈ r.1, r'.length = sz) ∧
      ∀ i c x, cellOf r.1 i c = some x → ∃ u, vs'[i * sz + c]? = some u ∧ RepD w L' ⟨.h 0, 0, [(i, c)]⟩ x u
  | [], [], ws, L, rows, vs, M, hf, hm, hl, hlen, hc, hp, r, hr => by
    simp only [evRows] at hr
    obtain rfl := Q.run_pure_some hr
    exact ⟨L, vs, rfl, M, hm, rfl, rfl, hlen, hc⟩
  | (i, X) :: parts, (i', x) :: ps, ws, L, rows, vs, M, hf, hm, hl, hlen, hc, hp, r, hr => by
    obtain ⟨rfl, hx, hok, hp⟩ := hp
    simp only [evRows] at hr
    obtain ⟨⟨v, ws1⟩, h1, h2⟩ := Q.run_bind_some hr
    clear hr
    obtain ⟨⟨cs, ws2⟩, h3, h4⟩ := Q.run_bind_some h2
    clear h2
    obtain ⟨row, h5, h6⟩ := Q.run_ofO_some h4
    clear h4
    obtain ⟨hg, h7⟩ := Q.run_guard_some h6
    clear h6
    simp only [Bool.and_eq_true, beq_iff_eq, decide_eq_true_eq] at hg
    obtain ⟨hrl, hi⟩ := hg
    have hcs := dataL_inv h5
    have hcl : cs.length = sz := by simp only at hcs; rw [hcs]; simp [hrl]
    obtain ⟨L1, O1, hl1, hc1⟩ := part_rep M R0 hf hx hok h1 h3 (by omega)
    obtain ⟨M2, hst⟩ := O1.mid.relabH (f := rowTo i sz) (fun q hq => rowTo_fix hq) (fun q t h ht => rowTo_back h ht) (fun q q' t a b => rowTo_inj a b)
    have hf2 : FreeH (relab (rowTo i sz) L1) 1 := by
      intro B q o hB e
      obtain ⟨q0, _, h2⟩ := relab_row hB
      rcases rowTo_cases h2 with ⟨_, _, h⟩ | ⟨h6, _, h⟩
      · rw [h] at e; simp at e
      · rw [h] at e; exact h6 e
    have hm2 : ∀ B o, relab (rowTo i sz) L1 B ≠ some (.row ⟨.h 0, 0, []⟩ o) := by
      intro B o hB
      obtain ⟨q0, h8, h2⟩ := relab_row hB
      rcases rowTo_cases h2 with ⟨_, _, h⟩ | ⟨h6, _, h⟩
      · simp at h
      · rw [← h] at h8
        exact hm B o (O1.onlyH B _ o rfl (by simp) h8)
    obtain ⟨u1, u2⟩ := upd_spec vs (i * sz) (a.eval x).cells
    have hile : i * sz + sz ≤ vs.size := by
      have : (i + 1) * sz ≤ rows.length * sz := Nat.mul_le_mul_right _ hi
      rw [Nat.add_mul] at this; omega
    have hlen2 : ∀ r ∈ rows.set i row, r.length = sz := by
      intro r hr
      rcases List.mem_or_eq_of_mem_set hr with h | h
      · exact hlen r h
      · rw [h]; exact hrl
    have hcell : ∀ i' c y, cellOf (rows.set i row) i' c = some y → (i' = i ∧ row[c]? = some y) ∨ (i' ≠ i ∧ cellOf rows i' c = some y) := by
      intro i' c y hy
      obtain ⟨rr, k1, k2⟩ := cellOf_some.1 hy
      rw [List.getElem?_set] at k1
      by_cases he : i = i'
      · subst he
        rw [if_pos rfl, if_pos hi] at k1
        simp only [Option.some.injEq] at k1
        rw [k1]
        exact .inl ⟨rfl, k2⟩
      · rw [if_neg he] at k1
        exact .inr ⟨fun e => he e.symm, cellOf_some.2 ⟨rr, k1, k2⟩⟩
    obtain ⟨L', vs', g1, g2, g3, g4, g5, g6, g7⟩ := evRows_rep R0 hsz parts ps (rows := rows.set i row) (vs := upd vs (i * sz) (a.eval x).cells) M2 hf2 hm2 (by rw [List.length_set, u1]; exact hl) hlen2 (by
      intro i' c y hy
      have hlt := cellOf_lt hlen2 hy
      rw [List.length_set] at hlt
      have hidx := idx_lt hlt.1 hlt.2
      rw [hl] at hidx
      rw [u2 _ hidx, ← hl1, hcl]
      rcases hcell i' c y hy with ⟨rfl, hrow⟩ | ⟨hne, hold⟩
      · have hcd : cs[c]? = some (.d y) := by simp only at hcs; rw [hcs]; simp [hrow]
        have hcu : c < (a.eval x).cells.size := by omega
        refine ⟨(a.eval x).cells[c], ?_, ?_⟩
        · rw [if_pos ⟨by omega, by omega⟩, show i' * sz + c - i' * sz = c by omega]
          simp [hcu]
        · have h9 := hc1 c (.d y) _ hcd (Array.getElem?_eq_getElem hcu)
          cases h9 with
          | d h9 =>
            have := RepD.move (w' := w) (L' := relab (rowTo i' sz) L1) (fun q => ⟨.h 0, 0, (i', q.j) :: q.p⟩) (fun q => q.k = .h 1 ∧ q.j = c) (fun _ _ _ h => h) (fun _ _ _ _ => rfl) (fun B hB => ⟨relab_imm.2 hB, rfl⟩)
              (fun B q o hq hL => ⟨relab_of_row hL (by unfold rowTo; rw [if_pos hq.1, if_pos (by rw [hq.2]; exact hlt.2)]), rfl⟩) h9 ⟨rfl, rfl⟩
            exact this
      · have hnin : ¬ (i * sz ≤ i' * sz + c ∧ i' * sz + c < i * sz + sz) := by
          rintro ⟨k1, k2⟩
          rcases Nat.lt_or_gt_of_ne hne with h | h
          · have : (i' + 1) * sz ≤ i * sz := Nat.mul_le_mul_right _ h
            rw [Nat.add_mul] at this; omega
          · have : (i + 1) * sz ≤ i' * sz := Nat.mul_le_mul_right _ h
            rw [Nat.add_mul] at this; omega
        rw [if_neg hnin]
        obtain ⟨u, k1, k2⟩ := hc i' c y hold
        refine ⟨u, k1, ?_⟩
        have k3 : RepD w L1 ⟨.h 0, 0, [(i', c)]⟩ y u := by
          refine RepD.move id (fun q => q.k = .h 0) (fun _ _ _ h => h) (fun _ _ _ _ => rfl) O1.stp.imm (fun B q o hq hL => ⟨O1.keepH B q o (by rw [hq]; rfl) (by rw [hq]; simp) hL, rfl⟩) k2 rfl
        refine RepD.move id (fun q => ∃ r, q = ⟨.h 0, 0, (i', c) :: r⟩) (by rintro q a b ⟨r, rfl⟩; exact ⟨r ++ [(a, b)], rfl⟩) (fun _ _ _ _ => rfl) (fun B hB => ⟨relab_imm.2 hB, rfl⟩) ?_ k3 ⟨[], rfl⟩
        rintro B q o ⟨r, rfl⟩ hL
        refine ⟨relab_of_row hL ?_, rfl⟩
        unfold rowTo
        rw [if_neg (by simp), if_pos ⟨rfl, rfl⟩]
        simp only [id, hne, if_false]) hp h7
    refine ⟨L', vs', ?_, g2, g3, by rw [g4, List.length_set], by rw [g5, u1], g6, g7⟩
    simp only [List.map_cons, Instr.fill]
    rw [if_neg (by simp; omega)]
    exact g1
  | [], _ :: _, _, _, _, _, _, _, _, _, _, _, hp, _, _ => hp.elim
  | (_, _) :: _, [], _, _, _, _, _, _, _, _, _, _, hp, _, _ => hp.elim
theorem fin_row {rows : List (List D)} {sz : Nat} {vs : Array Value} (hc : ∀ i c x, cellOf rows i c = some x → ∃ u, vs[i * sz + c]? = some u ∧ RepD w L ⟨.h 0, 0, [(i, c)]⟩ x u) :
    ∃ val, Lies rows sz 0 vs val ∧ Cont w L ⟨.h 0, 0, []⟩ rows val := by
  refine ⟨fun i c => vs.getD (i * sz + c) undef, ?_, ?_⟩
  · intro i c x hx
    obtain ⟨u, h1, _⟩ := hc i c x hx
    rw [Nat.zero_add, h1]
    simp [Array.getD_eq_getD_getElem?, h1]
  · intro i c x hx
    obtain ⟨u, h1, h2⟩ := hc i c x hx
    simp only [Array.getD_eq_getD_getElem?, h1, Option.getD_some]
    exact h2
theorem ev_bslice (R : Rel nm N S a w L) (hH : NoH L) (hd : ∀ d, o.dst = some d → d < N) {t e : TypeId} {len : Nat} {parts : Array (Nat × Operand)} {zs : List C} {row : List D} {ps : List (Nat × Abs.X)} (ho : o.op = .buildSlice t len parts) (ht : P.underlying t = some (.slice e)) (hz : zeroC P e = some zs) (hdz : dataL zs = some row)
    (hsmall : ¬ (len * zs.length > 2 ^ 24)) (hz0 : zs.length ≠ 0) (hp : ElemsOk nm ps parts.toList) (h8 : u8Row row = true → e = 5)
    (hr : (evOp Cl d (.bslice zs.length (List.replicate len row) ps)).run S = some r) : OpsTo P a w o (Aft nm N S w L a o.dst r.1 r.2) := by
  simp only [evOp] at hr
  obtain ⟨⟨rs, ws1⟩, h1, h2⟩ := Q.run_bind_some hr
  clear hr
  obtain ⟨hg8, h2⟩ := Q.run_guard_some h2
  obtain rfl := Q.run_pure_some h2
  have hu8 : U8At rs e := by
    intro hn
    simp only [Bool.or_eq_true, Bool.and_eq_true, Bool.not_eq_true', List.isEmpty_eq_false_iff] at hg8
    obtain ⟨hg8, hne⟩ := hg8
    have hn : noU8 rs = false := hn.resolve_right hne
    rcases hg8 with hg8 | hg8
    · rw [hn] at hg8; cases hg8
    · obtain ⟨q1, q2⟩ := noU8_false.1 hg8
      cases len with
      | zero => exact absurd rfl q1
      | succ n => exact h8 (q2 row (by simp [List.replicate_succ]))
  obtain ⟨i, z, k1, k2, k3, k4, k5⟩ := zeroC_inv hz
  have hfree : ∀ m, FreeH L m := fun m B q o hB e => by have := hH B q o hB; rw [e] at this; simp [Key.isPl] at this
  obtain ⟨z1, z2⟩ := zero_rows (n := len) (m := len) hdz k3 k5 (Nat.le_refl _) hz0
  obtain ⟨L', vs', g1, g2, g3, g4, g5, g6, g7⟩ := evRows_rep R (Nat.pos_of_ne_zero hz0) ps parts.toList (Mid.init R) (hfree 1) (fun B o hB => hfree 0 B _ o hB rfl) (rows := List.replicate len row) (vs := madeCells z.cells (len * zs.length))
    (by rw [size_madeCells, List.length_replicate]) z1 (fun i c x hx => by
      obtain ⟨u, h3, h4⟩ := z2 i c x hx
      exact ⟨u, h3, .plain (h4.plain w L)⟩) hp h1
  obtain ⟨val, hv, hcont⟩ := fin_row g7
  simp only [List.length_replicate] at g4
  obtain ⟨hR, hM, hrep⟩ := g2.rel.newRowW (m := 0) (j := 0) (w' := w.alloc (.cells vs' e)) (cap := len) g3 (heap_alloc_self w _) (fun B hB => heap_alloc_lt w _ hB) (fun j _ => by simp) ⟨rfl, rfl, rfl, by simp⟩ (Nat.pos_of_ne_zero hz0) g6 (by rw [g4]; exact Nat.le_refl _) (by rw [g5, size_madeCells]; exact Nat.le_refl _) hv hcont hu8
  refine .val (v := .slice (some ⟨w.heap.size, 0, none⟩) len len) (w' := w.alloc (.cells vs' e)) ?_ (hR.aft (g2.mono.trans hM) hd (m := 0) (.one (by rw [← g4]; rw [← g4] at hrep; exact hrep)))
  have hi : i.size = zs.length := by omega
  have : (Instr.buildSlice t len (parts.map fun (i, x) => (i, a.eval x))).run P w = .ok (.slice (some ⟨w.heap.size, 0, none⟩) len len) (w.alloc (.cells vs' e)) := by
    have hpe : (parts.map fun (i, x) => (i, a.eval x)).toList = parts.toList.map fun p => (p.1, a.eval p.2) := by simp
    have hs2 : ¬ (16777216 < len * zs.length) := by omega
    unfold Instr.buildSlice
    simp only [Sem.run_bind, run_underlying ht, Result.andThen_ok, sizeOf, typeInfo, run_program, k1, Sem.run_pure, hi]
    have hgt : ¬ (len * zs.length > 2 ^ 24) := hsmall
    by_cases h0 : len * zs.length = 0
    · have hm0 : madeCells z.cells (len * zs.length) = #[] := by rw [h0]; simp [madeCells]
      rw [hm0] at g1
      simp only [hgt, if_false, h0, if_true, Sem.run_pure, Result.andThen_ok, Sem.run_bind]
      simp only [Array.range_zero', hpe]
      have : ((Array.range 0).map fun x => (#[] : Array Value)[x % (#[] : Array Value).size]!) = #[] := by simp
      simp [g1, newRow]
    · simp only [hgt, if_false, h0, Sem.run_bind, zeroValue, typeInfo, run_program, k1, k2, Result.andThen_ok, Sem.run_pure]
      have hmade : ((Array.range (len * zs.length)).map fun x => z.cells[x % z.cells.size]!) = madeCells z.cells (len * zs.length) := rfl
      simp [hpe, hmade, g1, newRow]
  simp [execOp, ho, this]
end
end
section
section
variable {nm : FuncId → Option Nat} {N : Nat} {S S0 : St} {a : Act} {w w0 : World} {L L0 : LabF} {P : Program} {o : Oper} {Cl : Oracle} {d : Nat} {r : V × List Wr} {ws : List Wr}
theorem NoH.free (h : NoH L) (m : Nat) : FreeH L m := fun B q o hB e => by have := h B q o hB; rw [e] at this; simp [Key.isPl] at this
theorem Rel.newImm {S : St} (h : Rel nm N S a w L) (c : Array Value) (e : TypeId) :
    Rel nm N S a (w.alloc (.cells c e)) (L.put w.heap.size .imm) ∧ Mono w (w.alloc (.cells c e)) L (L.put w.heap.size .imm) ∧ Step w (w.alloc (.cells c e)) L (L.put w.heap.size .imm) S.γ S.γ := by
  have hne : ∀ B l, L B = some l → B ≠ w.heap.size := fun B l hB e => by rw [e, h.dom.new] at hB; cases hB
  have ho : ∀ B, B ≠ w.heap.size → (w.alloc (.cells c e)).heap[B]? = w.heap[B]? := fun B hB => heap_alloc_lt w _ hB
  have hw : (w.alloc (.cells c e)).heap[w.heap.size]? = _ := heap_alloc_self w (.cells c e)
  have hL : ∀ B l, L B = some l → (L.put w.heap.size .imm) B = some l := fun B l hB => by rw [LabF.put_other (hne B l hB)]; exact hB
  refine ⟨h.grow (fun B l hB => ho B (hne B l hB)) hL ?_ ?_ ?_, ⟨rfl, rfl, rfl, by simp, fun B hB => ⟨hL B _ hB, ho B (hne B _ hB)⟩, fun B hlt hB => ⟨by rw [LabF.put_other (by omega)]; exact hB, ho B (by omega)⟩, fun B i o hB => hL B _ hB⟩,
    ⟨fun B hB => ⟨hL B _ hB, ho B (hne B _ hB)⟩, fun _ => Nat.le_refl _, fun B q o _ _ hB => ⟨hL B _ hB, fun cur e fz hc => ⟨cur, (ho B (hne B _ hB)).trans hc, rfl⟩⟩, fun B q o _ _ _ hB => ho B (hne B _ hB), fun B r o _ hB => hL B _ hB⟩⟩
  · intro B l hB
    by_cases he : B = w.heap.size
    · subst he; exact (Array.getElem?_eq_some_iff.1 hw).1
    · rw [LabF.put_other he] at hB
      exact heap_lt (h.dom B l hB) (ho B he)
  · intro B B' pl o o' h1 h2
    by_cases he : B = w.heap.size
    · subst he; rw [LabF.put_same] at h1; simp at h1
    · by_cases he' : B' = w.heap.size
      · subst he'; rw [LabF.put_same] at h2; simp at h2
      · rw [LabF.put_other he] at h1
        rw [LabF.put_other he'] at h2
        exact h.rowInj B B' pl o o' h1 h2
  · intro B B' r o o' h1 h2
    by_cases he : B = w.heap.size
    · subst he; rw [LabF.put_same] at h1; simp at h1
    · by_cases he' : B' = w.heap.size
      · subst he'; rw [LabF.put_same] at h2; simp at h2
      · rw [LabF.put_other he] at h1
        rw [LabF.put_other he'] at h2
        exact h.boxInj B B' r o o' h1 h2
theorem ev_mkslice (R : Rel nm N S a w L) (hH : NoH L) (hd : ∀ d, o.dst = some d → d < N) {t e : TypeId} {l c : Operand} {LX CX : Abs.X} {i : TypeInfo} {zs : List C} {row : List D} (hl : OpRel nm LX l) (hc : OpRel nm CX c) (ho : o.op = .makeSlice t l c) (ht : P.underlying t = some (.slice e)) (hi : P.info? e = some i) (hz : zeroC P e = some zs) (hdz : dataL zs = some row)
    (hs0 : i.size ≠ 0) {bytes : Nat} (hby : i.bytes ≤ bytes ∧ (bytes = 1 → e = 5)) (hr : (evOp Cl d (.mkslice i.size bytes row LX CX)).run S = some r) : OpsTo P a w o (Aft nm N S w L a o.dst r.1 r.2) := by
  simp only [evOp] at hr
  obtain ⟨vl, h1, h2⟩ := Q.run_bind_some hr
  clear hr
  obtain ⟨vc, h3, h4⟩ := Q.run_bind_some h2
  clear h2
  obtain ⟨n, h5, h6⟩ := Q.run_ofO_some h4
  clear h4
  obtain ⟨m, h7, h8⟩ := Q.run_ofO_some h6
  clear h6
  obtain ⟨hg, h9⟩ := Q.run_guard_some h8
  clear h8
  obtain rfl := Q.run_pure_some h9
  simp only [Bool.and_eq_true, decide_eq_true_eq, beq_iff_eq] at hg
  obtain ⟨⟨⟨⟨hnm, hb0⟩, h63⟩, _⟩, h8⟩ := hg
  have hb : m * i.bytes ≤ 140737488355328 := Nat.le_trans (Nat.mul_le_mul_left _ hby.1) hb0
  obtain ⟨kl, hl'⟩ := asNat_inv (rd_val R hl h1) h5
  obtain ⟨kc, hc'⟩ := asNat_inv (rd_val R hc h3) h7
  obtain ⟨i', z, k1, k2, k3, k4, k5⟩ := zeroC_inv hz
  obtain rfl : i' = i := by rw [hi] at k1; simpa using k1.symm
  have hsz : i'.size = zs.length := by omega
  obtain ⟨z1, z2⟩ := zero_rows (n := n) (m := m) hdz k3 k5 hnm (by omega)
  rw [← hsz] at z1 z2
  obtain ⟨val, hv, hcont⟩ := fin_row (w := w) (L := L) (rows := List.replicate n row) (sz := i'.size) (vs := madeCells z.cells (m * i'.size)) (fun i c x hx => by
    obtain ⟨u, h3, h4⟩ := z2 i c x hx
    exact ⟨u, h3, .plain (h4.plain w L)⟩)
  have hrun : (Instr.makeSlice t (a.eval l) (a.eval c)).run P w = .ok (.slice (some ⟨w.heap.size, 0, none⟩) n m) (w.alloc (.cells (madeCells z.cells (m * i'.size)) e)) := by
    rw [hl', hc']
    have hbb : (i'.bytes : Int) * (m : Int) ≤ 281474976710656 := by
      have h1 : i'.bytes * m ≤ 281474976710656 := by rw [Nat.mul_comm]; omega
      have h2 : ((i'.bytes * m : Nat) : Int) ≤ 281474976710656 := by omega
      rwa [Int.natCast_mul] at h2
    exact run_make w t e i' z ht hi k2 kl kc n m (by omega) (by omega) hbb (by omega)
  by_cases hm0 : n = 0 ∧ m = 0
  · obtain ⟨rfl, rfl⟩ := hm0
    obtain ⟨hR, hM, _⟩ := R.newImm (madeCells z.cells (0 * i'.size)) e
    exact .val (v := .slice (some ⟨w.heap.size, 0, none⟩) 0 0) (w' := w.alloc (.cells (madeCells z.cells (0 * i'.size)) e)) (by simp [execOp, ho, hrun]) (Rel.aft (ws := []) hR hM hd (m := 0) (.one (.d .ownE)))
  obtain ⟨hR, hM, hrep⟩ := R.newRowW (m := 0) (j := 0) (w' := w.alloc (.cells (madeCells z.cells (m * i'.size)) e)) (cap := m) (fun B o hB => hH.free 0 B _ o hB rfl) (heap_alloc_self w _) (fun B hB => heap_alloc_lt w _ hB) (fun j _ => by simp) ⟨rfl, rfl, rfl, by simp⟩ (Nat.pos_of_ne_zero hs0) z1
    (by simpa using hnm) (by rw [size_madeCells]; exact Nat.le_refl _) hv hcont (by
      intro hn
      simp only [Bool.or_eq_true, beq_iff_eq, Bool.and_eq_true, Bool.not_eq_true', beq_eq_false_iff_ne] at h8
      rcases h8 with h8 | ⟨h8, h10⟩
      · exact hby.2 h8
      · exfalso
        have hn := hn.resolve_right fun e => (h10.elim (fun h => h (by simpa using e)) fun h => hm0 ⟨by simpa using e, h⟩)
        obtain ⟨q1, q2⟩ := noU8_false.1 hn
        cases n with
        | zero => exact absurd rfl q1
        | succ n =>
          have h9 := q2 row (by simp [List.replicate_succ])
          rw [h9] at h8; cases h8)
  simp only [List.length_replicate] at hrep
  exact .val (v := .slice (some ⟨w.heap.size, 0, none⟩) n m) (w' := w.alloc (.cells (madeCells z.cells (m * i'.size)) e)) (by simp [execOp, ho, hrun]) (Rel.aft (ws := []) hR hM hd (m := 0) (.one hrep))
theorem strB_cell {s : List UInt8} {i c : Nat} {x : D} (h : cellOf (D.strB s) i c = some x) : ∃ b, s[i]? = some b ∧ c = 0 ∧ x = .int .u8 b.toNat := by
  obtain ⟨r, h1, h2⟩ := cellOf_some.1 h
  simp only [D.strB, List.getElem?_map] at h1
  cases hb : s[i]? with
  | none => simp [hb] at h1
  | some b =>
    simp only [hb, Option.map_some, Option.some.injEq] at h1
    subst h1
    cases c with
    | zero => simp at h2; exact ⟨b, rfl, rfl, h2.symm⟩
    | succ c => simp at h2
theorem strB_len (s : List UInt8) : (D.strB s).length = s.length := by simp [D.strB]
theorem strB_lens (s : List UInt8) : ∀ r ∈ D.strB s, r.length = 1 := by
  intro r hr
  simp only [D.strB, List.mem_map] at hr
  obtain ⟨b, _, rfl⟩ := hr
  rfl
def strCells (s : List UInt8) : Array Value := (s.map fun b => Value.int .u8 b.toNat).toArray
theorem ev_strBytes (R : Rel nm N S a w L) (hH : NoH L) (hd : ∀ d, o.dst = some d → d < N) {t u e : TypeId} {x : Operand} {X : Abs.X} (hx : OpRel nm X x) (ho : o.op = .convert t u x) (ht : P.underlying t = some .string) (hu : P.underlying u = some (.slice e)) (he : P.underlying e = some (.int .u8)) (he5 : e = 5)
    (hr : (evOp Cl d (.conv .strBytes X)).run S = some r) : OpsTo P a w o (Aft nm N S w L a o.dst r.1 r.2) := by
  simp only [evOp] at hr
  obtain ⟨v1, h1, h2⟩ := Q.run_bind_some hr
  clear hr
  have r1 := rd_val R hx h1
  cases v1 with
  | one c =>
    cases c with
    | d z =>
      cases z with
      | str s =>
        obtain ⟨hg, h3⟩ := Q.run_guard_some (b := decide (s.length ≤ 140737488355328)) (f := fun _ => (pure (V.one (C.d (D.sl Tag.own 1 (D.strB s))), []) : Q (V × List Wr))) h2
        obtain rfl := Q.run_pure_some h3
        simp only [decide_eq_true_eq] at hg
        have e1 := r1.one_inv.str_inv
        let cap := grownCap w s.length 0 e
        have hcap : s.length ≤ cap := grownCap_ge w s.length 0 e
        let cur : Array Value := strCells s ++ Array.replicate (cap - s.length) (.int .u8 0)
        have hcs : cur.size = cap := by simp [cur, strCells]; omega
        let w' := (w.drew.alloc (.cells cur e)).freeze ⟨w.heap.size, cur.size, none⟩ 1
        have hself : w'.heap[w.heap.size]? = some (.cells cur e (cur.size, cur.size + 1)) := by
          have h0 := heap_alloc_self w.drew (.cells cur e)
          simp only [World.size_drew] at h0
          simp only [w', World.freeze, Nat.one_ne_zero, if_false, Array.getElem?_modify, h0]
          simp
        have hoth : ∀ B, B ≠ w.heap.size → w'.heap[B]? = w.heap[B]? := by
          intro B hB
          have h0 := heap_alloc_lt w.drew (.cells cur e) (B := B) hB
          simp only [w', World.freeze, Nat.one_ne_zero, if_false, Array.getElem?_modify]
          rw [if_neg (fun e => hB e.symm)]
          exact h0
        have hcell : ∀ (i : Nat) b, s[i]? = some b → cur[i]? = some (Value.int .u8 b.toNat) := by
          intro i b hb
          have hi := (List.getElem?_eq_some_iff.1 hb).1
          simp only [cur]
          rw [Array.getElem?_append_left (by simp [strCells]; exact hi)]
          simp [strCells, hb]
        obtain ⟨hR, hM, hrep⟩ := R.newRowW (m := 0) (j := 0) (w' := w') (cap := cap) (rows := D.strB s) (sz := 1) (val := fun i _ => Value.int .u8 (((s.getD i 0).toNat : Nat) : Int)) (fun B o hB => hH.free 0 B _ o hB rfl) hself hoth (fun j hj h => by simp at h; omega)
          ⟨rfl, rfl, rfl, by simp [w', World.freeze]⟩ (by omega) (strB_lens s) (by rw [strB_len]; exact hcap) (by omega) (fun i c x hx => by
            obtain ⟨b, g1, rfl, rfl⟩ := strB_cell hx
            rw [Nat.zero_add, Nat.mul_one, Nat.add_zero, hcell i b g1]
            simp [List.getD_eq_getElem?_getD, g1]) (fun i c x hx => by
            obtain ⟨b, g1, rfl, rfl⟩ := strB_cell hx
            simp only [List.getD_eq_getElem?_getD, g1, Option.getD_some]
            exact .plain .int) (fun _ => he5)
        rw [strB_len] at hrep
        refine .val (v := .slice (some ⟨w.heap.size, 0, none⟩) s.length cap) (w' := w') ?_ (Rel.aft (ws := []) hR hM hd (m := 0) (.one hrep))
        have : (convert t u (a.eval x)).run P w = .ok (.slice (some ⟨w.heap.size, 0, none⟩) s.length cap) w' := by
          rw [e1]
          have hsh : (w.drew.alloc (.cells cur e)).shape? w.heap.size = some (e, cur.size) := by
            have h0 := heap_alloc_self w.drew (.cells cur e)
            simp only [World.size_drew] at h0
            unfold World.shape?
            rw [h0]
          have hel : (⟨s.toArray⟩ : ByteArray).data.map (fun b => Value.int .u8 b.toNat) = strCells s := by
            apply Array.ext'; simp [strCells]
          simp only [convert, Sem.run_bind, run_underlying ht, run_underlying hu, Result.andThen_ok, run_underlying he, Conv.stringToBytes, run_choose, Question.forced, bytes_size, hel, newRow, run_newObj, Sem.run_pure, markStringish, run_shape, run_freeze]
          simp only [Bool.false_eq_true, if_false, Result.andThen_ok, World.drew_eq, World.alloc_eq, World.size_drew]
          rw [show (Question.cut (.appendCap s.length 0 e) (w.tape w.drawn (.appendCap s.length 0 e))) = cap from rfl]
          rw [show strCells s ++ Array.replicate (cap - s.length) (Value.int .u8 0) = cur from rfl, hsh]
          rfl
        simp [execOp, ho, this]
      | _ => cases h2
    | _ => cases h2
  | _ => cases h2
theorem rows_src {γ : Key → Nat} {m : Nat} {tg : Tag} {sz sz' : Nat} {rows : List (List D)} {v : Value} (h : RepC nm w L γ (.h m) 0 (.d (.sl tg sz' rows)) v) (hs : sz' = sz ∨ rows = []) :
    ∃ news val2, Src P sz w v rows.length news ∧ (∀ r ∈ rows, r.length = sz) ∧ Cont w L ⟨.h m, 0, []⟩ rows val2 ∧ Lies rows sz 0 news val2 := by
  have empty : rows = [] → (∃ b cap, v = .slice b 0 cap) → ∃ news val2, Src P sz w v rows.length news ∧ (∀ r ∈ rows, r.length = sz) ∧ Cont w L ⟨.h m, 0, []⟩ rows val2 ∧ Lies rows sz 0 news val2 := by
    rintro rfl ⟨b, cap, rfl⟩
    refine ⟨#[], fun _ _ => undef, ⟨fun w' => by simp [Builtin.lenOf], fun w' _ => ?_, by simp, by simp⟩, by simp, fun i c x hx => by simp [cellOf] at hx, fun i c x hx => by simp [cellOf] at hx⟩
    cases b <;> simp [Builtin.firstCells, loadCells, loadCellsFrom]
  have full : ∀ (B o cap : Nat) (cur : Array Value) (e : TypeId) (fz : Nat × Nat) (val : Nat → Nat → Value), v = .slice (some ⟨B, o, none⟩) rows.length cap → sz' = sz → w.heap[B]? = some (.cells cur e fz) → (∀ r ∈ rows, r.length = sz') →
      (∀ i c x, cellOf rows i c = some x → cur[o + i * sz' + c]? = some (val i c)) → Cont w L ⟨.h m, 0, []⟩ rows val → ∃ news val2, Src P sz w v rows.length news ∧ (∀ r ∈ rows, r.length = sz) ∧ Cont w L ⟨.h m, 0, []⟩ rows val2 ∧ Lies rows sz 0 news val2 := by
    rintro B o cap cur e fz val rfl rfl hB hlen hv hc
    have hk : ∀ k, k < rows.length * sz' → ∃ i c x, cellOf rows i c = some x ∧ k = i * sz' + c ∧ cur[o + k]? = some (val i c) := by
      intro k hk
      obtain ⟨i, c, x, g1, g2, _, _⟩ := cellOf_idx hlen hk
      exact ⟨i, c, x, g1, g2, by rw [g2, ← Nat.add_assoc]; exact hv i c x g1⟩
    have hsize : o + rows.length * sz' ≤ cur.size ∨ rows.length * sz' = 0 := by
      rcases Nat.eq_zero_or_pos (rows.length * sz') with h | h
      · exact .inr h
      · obtain ⟨i, c, x, _, _, g⟩ := hk (rows.length * sz' - 1) (by omega)
        have := (Array.getElem?_eq_some_iff.1 g).1
        exact .inl (by omega)
    rcases hsize with hsize | h0
    · refine ⟨cur.extract o (o + rows.length * sz'), val, ⟨fun w' => by simp [Builtin.lenOf], fun w' hw => ?_, by simp; omega, ?_⟩, hlen, hc, ?_⟩
      · simp only [Builtin.firstCells]
        exact read_cells (w := w') (by rw [hw]; exact hB) hsize
      · intro u hu
        obtain ⟨k, hk1, hk2⟩ := Array.mem_iff_getElem.1 hu
        simp only [Array.size_extract] at hk1
        obtain ⟨i, c, x, g1, g2, g3⟩ := hk k (by omega)
        have : u = val i c := by
          rw [← hk2, Array.getElem_extract]
          rw [Array.getElem?_eq_getElem (by omega)] at g3
          simpa using g3
        rw [this]
        exact (hc i c x g1).oneCell
      · intro i c x hx
        obtain ⟨h1, h2⟩ := cellOf_lt hlen hx
        have := idx_lt h1 h2
        rw [Nat.zero_add, Array.getElem?_extract, if_pos (by omega), ← Nat.add_assoc]
        exact hv i c x hx
    · refine ⟨#[], val, ⟨fun w' => by simp [Builtin.lenOf], fun w' hw => ?_, by simp [h0], by simp⟩, hlen, hc, ?_⟩
      · simp [Builtin.firstCells, loadCells, loadCellsFrom, h0]
      · intro i c x hx
        obtain ⟨h1, h2⟩ := cellOf_lt hlen hx
        have := idx_lt h1 h2
        omega
  cases h with
  | d h =>
    cases h with
    | plain h =>
      cases h with
      | nil => exact empty rfl ⟨_, _, rfl⟩
      | plE => exact empty rfl ⟨_, _, rfl⟩
      | pl val hne hsz hcap hL hB hlen hv hr => exact full _ _ _ _ _ _ val rfl (hs.resolve_right hne) hB hlen hv (fun i c x hx => .plain (hr i c x hx))
    | ownE => exact empty rfl ⟨_, _, rfl⟩
    | own val hsz hL hB hfz hlen hcap hroom hv hr =>
      rcases hs with hs | hs
      · exact full _ _ _ _ _ _ val rfl hs hB hlen hv (fun i c x hx => by have := hr i c x hx; simpa [Place.sub] using this)
      · exact empty hs ⟨_, _, by rw [hs]; rfl⟩
theorem AppAt.own {m sz : Nat} {rows : List (List D)} {v : Value} (h : AppAt w L ⟨.h m, 0, []⟩ sz rows ⟨.h m, 0, []⟩ v) : RepD w L ⟨.h m, 0, []⟩ (.sl .own sz rows) v := by
  rcases h with ⟨rfl, a, rfl⟩ | ⟨B, o, cap, cur, e, fz, n0, val, rfl, hsz, hL, hB, hfz, hlens, hcap, hroom, hval, hd, hu8⟩
  · exact .ownE
  · refine .own val hsz (hL.elim id id) hB hfz hlens hcap hroom hval (fun i c x hx => ?_) hu8
    have := hd i c x hx
    simpa using this
theorem AppAt.of_own {m sz : Nat} {rows : List (List D)} {v : Value} (h : RepD w L ⟨.h m, 0, []⟩ (.sl .own sz rows) v) : AppAt w L ⟨.h m, 0, []⟩ sz rows ⟨.h m, 0, []⟩ v := by
  rcases h.own_inv with ⟨rfl, a, rfl⟩ | ⟨B, o, cap, cur, e, fz, val, rfl, hsz, hL, hB, hfz, hlens, hcap, hroom, hval, hd, hu8⟩
  · exact .inl ⟨rfl, a, rfl⟩
  · exact .inr ⟨B, o, cap, cur, e, fz, 0, val, rfl, hsz, .inl hL, hB, hfz, hlens, hcap, hroom, hval, fun i c x hx => by simpa using hd i c x hx, hu8⟩
theorem appTo_rep (M : Mid nm N S0 w0 L0 ws a w L) {sz bytes : Nat} {v : V} {u x : Value} {src : List (List D)} {t ut ty e : TypeId} {i : TypeInfo} {dd : TypeDesc} {z : Value} (T : AppT P sz bytes t ut e i dd z) (hv : LimV nm w0 L0 S0.γ w L (S0.wrs ws).γ 0 v u)
    {news : Array Value} {val2 : Nat → Nat → Value} (hx : Src P sz w x src.length news) (hsl : ∀ r ∈ src, r.length = sz) (hc2 : Cont w L ⟨.h 1, 0, []⟩ src val2) (hl2 : Lies src sz 0 news val2)
    (hr : (appTo sz bytes v ws src).run S0 = some r) {dst : Option Nat} (hd : ∀ d, dst = some d → d < N) :
    ∃ v' w', (Builtin.append_ #[t, ut] ty #[u, x]).run P w = .ok v' w' ∧ Aft nm N S0 w0 L0 a dst r.1 r.2 v' w' := by
  unfold appTo at hr
  split at hr
  · -- one's own
    rename_i sz' rows
    obtain ⟨hg, h2⟩ := Q.run_guard_some hr
    obtain rfl := Q.run_pure_some h2
    simp only [Bool.and_eq_true, beq_iff_eq, decide_eq_true_eq] at hg
    obtain ⟨h8, rfl, hb⟩ := hg
    have hv' : RepC nm w L (S0.wrs ws).γ (.h 0) 0 (.d (.sl .own sz' rows)) u := hv
    cases hv' with
    | d hv' =>
      obtain ⟨v', w', L', g1, g2, g3, g4, g5, _⟩ := app_core (ty := ty) M.rel (by omega : (0 : Nat) ≠ 1) T (.inl (AppAt.of_own hv')) (.inl rfl) hx hsl hc2 hl2 hb (.inl h8)
      exact ⟨v', w', g1, (g5 rfl).aft (M.mono.trans g2) hd (m := 0) (.one (.d g3.own))⟩
  · -- nil
    rename_i bn sz' rows
    obtain ⟨hg, h2⟩ := Q.run_guard_some hr
    obtain rfl := Q.run_pure_some h2
    simp only [Bool.and_eq_true, beq_iff_eq, decide_eq_true_eq] at hg
    obtain ⟨h8, ⟨rfl, rfl⟩, hb⟩ := hg
    have hv' : RepC nm w L (S0.wrs ws).γ (.h 0) 0 (.d (.sl (.im true) sz' rows)) u := hv
    cases hv' with
    | d hv' =>
      cases hv' with
      | plain hv' =>
        cases hv'
        cases src with
        | nil =>
          obtain ⟨ht, hu, hd', hi, hz, hs1, hzs, hsz, hs2, hb0, _⟩ := T
          have hrun := run_append_in0 (ty := ty) (w := w) (b := none) (sLen := 0) (sCap := 0) ht hu hd' hi (by rw [hs1]; exact hx) (Nat.le_refl _)
          exact ⟨_, w, hrun, M.rel.aft M.mono hd (m := 0) (.one (.d (.plain (by simpa using RepP.nil))))⟩
        | cons r0 rs =>
          obtain ⟨v', w', L', g1, g2, g3, g4, g5, _⟩ := app_core (ty := ty) (rows := []) (pl := ⟨.h 0, 0, []⟩) M.rel (by omega : (0 : Nat) ≠ 1) T (.inr ⟨rfl, by simp, rfl⟩) (.inl rfl) hx hsl hc2 hl2 (by simpa using hb) (.inr ⟨h8, rfl⟩)
          exact ⟨v', w', g1, (g5 rfl).aft (M.mono.trans g2) hd (m := 0) (.one (.d g3.own))⟩
  · -- a view
    rename_i pl g sz' off len
    obtain ⟨res, h3, h4⟩ := Q.run_bind_some hr
    obtain ⟨e', x', rows⟩ := res
    obtain ⟨rfl, hgg, hE, hn⟩ := ownAt_run h3
    obtain ⟨hg, h5⟩ := Q.run_guard_some h4
    have h6 := Q.run_at_some h5
    obtain rfl := Q.run_pure_some h6
    simp only [Bool.and_eq_true, beq_iff_eq, decide_eq_true_eq] at hg
    obtain ⟨⟨⟨⟨⟨h8, rfl⟩, rfl⟩, rfl⟩, hfr⟩, hb⟩ := hg
    obtain ⟨f1, f2, f3⟩ := fresh_γ (S := S0) hfr
    have hv' : RepC nm w0 L0 S0.γ (.h 0) 0 (.view pl g sz' 0 rows.length) u := hv
    cases hv' with
    | view hv0 hh hgl hV =>
      obtain ⟨u0, hu0⟩ := M.at_own hh hE hn
      have hA : AppAt w L pl sz' rows ⟨.h 0, 0, []⟩ u := by
        rcases hV hgg with ⟨h0, a0, rfl⟩ | ⟨B, o, cap, cur, e', fz, rfl, hsz, hL, hB, hfz, hle, hroom, h8v⟩
        · exact .inl ⟨List.length_eq_zero_iff.1 h0, a0, rfl⟩
        · have hLB := (M.stp.view B pl o hh f1 hL).1
          have hBw : w.heap[B]? = some (.cells cur e' fz) := (M.heap B _ hL).trans hB
          simp only [Nat.zero_mul, Nat.add_zero] at hroom ⊢
          rcases hu0.own_inv with ⟨rfl, _⟩ | ⟨B', o', cap', cur', e2, fz', val, _, _, hL', hB', _, hlens, hcap', hroom', hval, hrr, hu8⟩
          · exact .inr ⟨B, o, cap, cur, e', fz, 0, fun _ _ => undef, rfl, hsz, .inl hLB, hBw, hfz, by simp, by simp, hroom, fun i c x hx => by simp [cellOf] at hx, fun i c x hx => by simp [cellOf] at hx, fun _ => h8v rfl rfl⟩
          · obtain rfl := M.rel.rowInj B' B pl o' o hL' hLB
            obtain rfl : o' = o := by rw [hL'] at hLB; simpa using hLB
            obtain ⟨rfl, rfl, rfl⟩ : cur' = cur ∧ e2 = e' ∧ fz' = fz := by rw [hB'] at hBw; simpa using hBw
            exact .inr ⟨B', o', cap, cur', e2, fz', rows.length, val, rfl, hsz, .inl hL', hB', hfz, hlens, hle, hroom, hval, fun i c x hx => by
              rw [if_pos (cellOf_lt hlens hx).1]; exact hrr i c x hx, hu8⟩
      obtain ⟨v', w', L', g1, g2, g3, g4, _, g5⟩ := app_core (ty := ty) M.rel (by omega : (0 : Nat) ≠ 1) T (.inl hA) (.inr ⟨hh, x', rows, hE, hn, Nat.le_refl _⟩) hx hsl hc2 hl2 hb (.inl h8)
      refine ⟨v', w', g1, Rel.aft (ws := { k := .a pl.k, v := V.dead } :: ws) (g5 hh) (M.mono.trans g2) hd (m := 0) (.one (.appd g4 hh ?_ ?_ (fun _ _ => g3)))⟩
      · rw [hgg]; exact St.γ_wrs_le S0 _ _
      · show (S0.γ (.a pl.k)) + 1 ≤ ((S0.wrs ws).wr { k := .a pl.k, v := V.dead }).γ (.a pl.k)
        rw [St.γ_wr, f2]; simp
  · -- what was appended already
    rename_i pl g aa sz' rows
    obtain ⟨res, h3, h4⟩ := Q.run_bind_some hr
    obtain ⟨e', x', old⟩ := res
    obtain ⟨rfl, hgg, hE, hn⟩ := ownAt_run h3
    have h5 := Q.run_at_some h4
    obtain ⟨hg, h6⟩ := Q.run_guard_some h5
    obtain rfl := Q.run_pure_some h6
    simp only [Bool.and_eq_true, beq_iff_eq, decide_eq_true_eq] at hg
    obtain ⟨⟨⟨⟨⟨h8, rfl⟩, hold⟩, haa⟩, hfr⟩, hb⟩ := hg
    obtain ⟨f1, f2, f3⟩ := fresh_γ (S := S0) hfr
    have hv' : RepC nm w L (S0.wrs ws).γ (.h 0) 0 (.appd pl g aa sz' rows) u := hv
    cases hv' with
    | appd hv0 hh hgl hal hV =>
      have hA := hV (by rw [f1]; exact hgg) (by rw [f2]; exact haa.symm)
      obtain ⟨v', w', L', g1, g2, g3, g4, _, g5⟩ := app_core (ty := ty) M.rel (by omega : (0 : Nat) ≠ 1) T (.inl hA) (.inr ⟨hh, x', old, hE, hn, hold⟩) hx hsl hc2 hl2 hb (.inl h8)
      refine ⟨v', w', g1, Rel.aft (ws := { k := .a pl.k, v := V.dead } :: ws) (g5 hh) (M.mono.trans g2) hd (m := 0) (.one (.appd g4 hh ?_ ?_ (fun _ _ => g3)))⟩
      · rw [hgg]; exact St.γ_wrs_le S0 _ _
      · show (S0.γ (.a pl.k)) + 1 ≤ ((S0.wrs ws).wr { k := .a pl.k, v := V.dead }).γ (.a pl.k)
        rw [St.γ_wr, f2]; simp
  · cases hr
end
end
section
section
variable {nm : FuncId → Option Nat} {N : Nat} {S S0 : St} {a : Act} {w w0 : World} {L L0 : LabF} {P : Program} {o : Oper} {Cl : Oracle} {d : Nat} {r : V × List Wr} {ws : List Wr}
theorem ev_app (R : Rel nm N S a w L) (hH : NoH L) (hd : ∀ d, o.dst = some d → d < N) {x y : Operand} {X Y : Abs.X} {t u e : TypeId} {sz bytes : Nat} {i : TypeInfo} {dd : TypeDesc} {z : Value} (hx : OpRel nm X x) (hxo : X.okC = true) (hy : OpRel nm Y y) (hyo : Y.okC = true)
    (ho : o.op = .call ⟨.builtin .append, #[x, y], #[t, u]⟩) (T : AppT P sz bytes t u e i dd z) (hr : (evOp Cl d (.app sz bytes X Y)).run S = some r) : OpsTo P a w o (Aft nm N S w L a o.dst r.1 r.2) := by
  simp only [evOp] at hr
  obtain ⟨⟨av, ws1⟩, h1, h2⟩ := Q.run_bind_some hr
  clear hr
  obtain ⟨⟨src, ws2⟩, h3, h4⟩ := Q.run_bind_some h2
  clear h2
  obtain ⟨⟨v, ws3⟩, h5, h6⟩ := Q.run_bind_some h4
  clear h4
  obtain ⟨L1, O1, V1⟩ := tk_rep (Mid.init R) R (hH.free 1) hyo hy h1
  dsimp only at h3 h5 h6 V1 O1
  unfold rowsOf at h3
  split at h3
  · rename_i c
    obtain ⟨⟨c', ws2'⟩, h7, h8⟩ := Q.run_bind_some h3
    have hV : LimC nm w L S.γ w L1 (S.wrs ws1).γ 1 0 c (a.eval y) := V1
    obtain ⟨L2, O2, R2⟩ := st_rep O1.mid hV h7
    dsimp only at h8
    split at h8
    · rename_i tg sz' rows
      obtain ⟨hg, h9⟩ := Q.run_guard_some h8
      have h10 := Q.run_pure_some h9
      simp only [Prod.mk.injEq] at h10
      obtain ⟨rfl, rfl⟩ := h10
      have hsz : sz' = sz ∨ src = [] := by simpa using hg
      have hf0 : FreeH L2 0 := O2.free (O1.free (hH.free 0) (by omega)) (by omega)
      obtain ⟨L3, O3, V3⟩ := tk_rep O2.mid R hf0 hxo hx h5
      have R3 := RepC.keep (m := 1) (j := 0) O3.keep (fun _ => trivial) R2
      obtain ⟨news, val2, g1, g2, g3, g4⟩ := rows_src (P := P) (sz := sz) R3 hsz
      obtain ⟨v', w', g5, g6⟩ := appTo_rep (ty := o.type) O3.mid T V3 g1 g2 g3 g4 h6 hd
      refine .val ?_ g6
      rw [execOp_builtin ho, show (#[x, y] : Array Operand).map a.eval = #[a.eval x, a.eval y] from by simp]
      exact run_v g5
    · cases h8
  · cases h3
theorem ev_appS (R : Rel nm N S a w L) (hH : NoH L) (hd : ∀ d, o.dst = some d → d < N) {x y : Operand} {X Y : Abs.X} {t u e : TypeId} {i : TypeInfo} {dd : TypeDesc} {z : Value} (hx : OpRel nm X x) (hxo : X.okC = true) (hy : OpRel nm Y y)
    (ho : o.op = .call ⟨.builtin .append, #[x, y], #[t, u]⟩) (T : AppT P 1 1 t u e i dd z) (hr : (evOp Cl d (.appS X Y)).run S = some r) : OpsTo P a w o (Aft nm N S w L a o.dst r.1 r.2) := by
  simp only [evOp] at hr
  obtain ⟨av, h1, h2⟩ := Q.run_bind_some hr
  clear hr
  have r1 := rd_val R hy h1
  split at h2
  · rename_i s
    obtain ⟨⟨v, ws3⟩, h5, h6⟩ := Q.run_bind_some h2
    clear h2
    obtain ⟨L3, O3, V3⟩ := tk_rep (Mid.init R) R (hH.free 0) hxo hx h5
    have e1 := r1.one_inv.str_inv
    have hsrc : Src P 1 w (.string ⟨s.toArray⟩) (D.strB s).length (strCells s) := by
      refine ⟨fun w' => by simp [Builtin.lenOf, bytes_size, strB_len], fun w' _ => ?_, by simp [strCells, strB_len], ?_⟩
      · simp only [Builtin.firstCells, strB_len]
        have hex : (⟨s.toArray⟩ : ByteArray).extract 0 s.length = ⟨s.toArray⟩ := by
          apply ByteArray.ext
          rw [ByteArray.data_extract]
          apply Array.ext'
          simp
        rw [hex]
        have : (⟨s.toArray⟩ : ByteArray).data.map (fun b => Value.int .u8 b.toNat) = strCells s := by
          apply Array.ext'; simp [strCells]
        rw [this]
        rfl
      · intro u hu
        simp only [strCells, List.mem_toArray, List.mem_map] at hu
        obtain ⟨b, _, rfl⟩ := hu
        rfl
    obtain ⟨v', w', g5, g6⟩ := appTo_rep (ty := o.type) O3.mid T V3 hsrc (strB_lens s) (val2 := fun i _ => Value.int .u8 (((s.getD i 0).toNat : Nat) : Int)) (fun i c x hx => by
        obtain ⟨b, g1, rfl, rfl⟩ := strB_cell hx
        simp only [List.getD_eq_getElem?_getD, g1, Option.getD_some]
        exact .plain .int) (fun i c x hx => by
        obtain ⟨b, g1, rfl, rfl⟩ := strB_cell hx
        rw [Nat.zero_add, Nat.mul_one, Nat.add_zero]
        simp [strCells, List.getD_eq_getElem?_getD, g1]) h6 hd
    refine .val ?_ g6
    rw [execOp_builtin ho, show (#[x, y] : Array Operand).map a.eval = #[a.eval x, a.eval y] from by simp, e1]
    exact run_v g5
  · cases h2
theorem ev_mov (R : Rel nm N S a w L) (hH : NoH L) (hd : ∀ d, o.dst = some d → d < N) {x : Operand} {X : Abs.X} (hx : OpRel nm X x) (hxo : X.okC = true) (ho : o.op = .move x ∨ o.op = .assign x)
    (hr : (evOp Cl d (.mov X)).run S = some r) : OpsTo P a w o (Aft nm N S w L a o.dst r.1 r.2) := by
  simp only [evOp] at hr
  obtain ⟨⟨v, ws1⟩, h1, h2⟩ := Q.run_bind_some hr
  clear hr
  obtain ⟨L1, O1, V1⟩ := tk_rep (Mid.init R) R (hH.free 0) hxo hx h1
  have hex : (execOp a.eval o).run P w = .ok (.value (a.eval x)) w := by rcases ho with ho | ho <;> simp [execOp, ho]
  refine .val hex ?_
  have plain : ∀ {r : V × List Wr}, (pure (v, ws1) : Q (V × List Wr)).run S = some r → Aft nm N S w L a o.dst r.1 r.2 (a.eval x) w := by
    intro r h
    obtain rfl := Q.run_pure_some h
    exact O1.mid.rel.aft O1.mid.mono hd (V1.rep O1.mid.stp)
  simp only at h2
  unfold movTo at h2
  split at h2
  · rename_i pl g aa sz rows
    obtain ⟨⟨c, ws2⟩, h3, h4⟩ := Q.run_bind_some h2
    obtain rfl := Q.run_pure_some h4
    obtain ⟨L2, O2, R2⟩ := settle_rep (m := 0) (j := 0) O1.mid V1 h3
    exact O2.mid.rel.aft O2.mid.mono hd (m := 0) (.one R2)
  · rename_i pl g sz off len
    split at h2
    · obtain ⟨⟨c, ws2⟩, h3, h4⟩ := Q.run_bind_some h2
      obtain rfl := Q.run_pure_some h4
      obtain ⟨L2, O2, R2⟩ := st_rep (m := 0) (j := 0) (c := .view pl g sz off len) (v := a.eval x) O1.mid V1 h3
      exact O2.mid.rel.aft O2.mid.mono hd (m := 0) (.one R2)
    · exact plain h2
  · exact plain h2
theorem putCells_rep {m : Nat} {mv : Bool} {r : Root} : ∀ (cs : List C) {ws : List Wr} {L : LabF} (M : Mid nm N S0 w0 L0 ws a w L) (j0 c0 : Nat) (vs : Nat → Value)
    (hc : ∀ j c, cs[j]? = some c → LimC nm w0 L0 S0.γ w L (S0.wrs ws).γ m (j0 + j) c (vs (j0 + j))) {rr : List C × List Wr} (hr : (putCells mv r ws c0 cs).run S0 = some rr),
    ∃ L', Out nm N S0 w0 L0 ws rr.2 a w L L' (fun q => ¬ (q.k = .h m ∧ j0 ≤ q.j)) m ∧ rr.1.length = cs.length ∧ (∀ c ∈ cs, c ≠ .dead) ∧
      ∀ j c, rr.1[j]? = some c → RepC nm w L' (S0.wrs rr.2).γ (.h m) (j0 + j) c (vs (j0 + j))
  | [], ws, L, M, j0, c0, vs, hc, rr, hr => by
    simp only [putCells] at hr
    obtain rfl := Q.run_pure_some hr
    exact ⟨L, Out.refl M _ m, rfl, fun c h => by simp at h, fun j c h => by simp at h⟩
  | c :: cs, ws, L, M, j0, c0, vs, hc, rr, hr => by
    simp only [putCells] at hr
    obtain ⟨⟨c1, ws1⟩, h1, h2⟩ := Q.run_bind_some hr
    clear hr
    obtain ⟨⟨cs2, ws2⟩, h3, h4⟩ := Q.run_bind_some h2
    clear h2
    obtain rfl := Q.run_pure_some h4
    have hcc := hc 0 c rfl
    have hlive : c ≠ .dead := by
      rintro rfl
      cases mv <;> simp [putCell, stMv, stAt, st] at h1
    obtain ⟨L1, O1, R1⟩ : ∃ L', Out nm N S0 w0 L0 ws ws1 a w L L' (fun q => ¬ (q.k = .h m ∧ q.j = j0)) m ∧ RepC nm w L' (S0.wrs ws1).γ (.h m) j0 c1 (vs j0) := by
      cases mv with
      | true => exact stMv_rep M hcc h1
      | false => exact stAt_rep M hcc h1
    obtain ⟨L2, O2, hl, hlv, R2⟩ := putCells_rep cs O1.mid (j0 + 1) (c0 + 1) vs (fun j c h => by
      have := hc (j + 1) c (by simpa using h)
      have := this.keep O1.keep (fun p => by simp)
      rwa [show j0 + 1 + j = j0 + (j + 1) by omega]) h3
    refine ⟨L2, (O1.weaken ?_).trans (O2.weaken ?_), by simp [hl], ?_, ?_⟩
    · intro q hq h; exact hq ⟨h.1, by omega⟩
    · intro q hq h; exact hq ⟨h.1, by omega⟩
    · intro y hy
      rcases List.mem_cons.1 hy with rfl | hy
      · exact hlive
      · exact hlv y hy
    · intro j y hj
      cases j with
      | zero =>
        simp only [List.getElem?_cons_zero, Option.some.injEq] at hj
        subst hj
        exact R1.keep O2.keep (fun p => by simp)
      | succ j =>
        have := R2 j y (by simpa using hj)
        rwa [show j0 + 1 + j = j0 + (j + 1) by omega] at this
theorem fitRow_rep {m : Nat} {Pl : Place} {i : Nat} : ∀ (cs : List C) {ws : List Wr} {L : LabF} (M : Mid nm N S0 w0 L0 ws a w L) (j0 c0 : Nat) (vs : Nat → Value)
    (hc : ∀ j c, cs[j]? = some c → LimC nm w0 L0 S0.γ w L (S0.wrs ws).γ m (j0 + j) c (vs (j0 + j))) {rr : List D × List Wr} (hr : (fitRow Pl i ws c0 cs).run S0 = some rr),
    ∃ L', Out nm N S0 w0 L0 ws rr.2 a w L L' (fun q => ¬ (q.k = .h m ∧ j0 ≤ q.j)) m ∧ rr.1.length = cs.length ∧ (∀ c ∈ cs, c ≠ .dead) ∧
      ∀ j c, rr.1[j]? = some c → RepC nm w L' (S0.wrs rr.2).γ (.h m) (j0 + j) (.d c) (vs (j0 + j))
  | [], ws, L, M, j0, c0, vs, hc, rr, hr => by
    simp only [fitRow] at hr
    obtain rfl := Q.run_pure_some hr
    exact ⟨L, Out.refl M _ m, rfl, fun c h => by simp at h, fun j c h => by simp at h⟩
  | c :: cs, ws, L, M, j0, c0, vs, hc, rr, hr => by
    simp only [fitRow] at hr
    obtain ⟨⟨c1, ws1⟩, h1, h2⟩ := Q.run_bind_some hr
    clear hr
    have hcc := hc 0 c rfl
    have hlive : c ≠ .dead := by
      rintro rfl
      simp [stAt, st] at h1
    obtain ⟨L1, O1, R1⟩ := stAt_rep M hcc h1
    simp only at h2
    split at h2
    · rename_i z
      obtain ⟨⟨cs2, ws2⟩, h3, h4⟩ := Q.run_bind_some h2
      clear h2
      obtain rfl := Q.run_pure_some h4
      obtain ⟨L2, O2, hl, hlv, R2⟩ := fitRow_rep cs O1.mid (j0 + 1) (c0 + 1) vs (fun j c h => by
        have := hc (j + 1) c (by simpa using h)
        have := this.keep O1.keep (fun p => by simp)
        rwa [show j0 + 1 + j = j0 + (j + 1) by omega]) h3
      refine ⟨L2, (O1.weaken ?_).trans (O2.weaken ?_), by simp [hl], ?_, ?_⟩
      · intro q hq h; exact hq ⟨h.1, by omega⟩
      · intro q hq h; exact hq ⟨h.1, by omega⟩
      · intro y hy
        rcases List.mem_cons.1 hy with rfl | hy
        · exact hlive
        · exact hlv y hy
      · intro j y hj
        cases j with
        | zero =>
          simp only [List.getElem?_cons_zero, Option.some.injEq] at hj
          subst hj
          exact R1.keep O2.keep (fun p => by simp)
        | succ j =>
          have := R2 j y (by simpa using hj)
          rwa [show j0 + 1 + j = j0 + (j + 1) by omega] at this
    · cases h2
theorem ev_store (R : Rel nm N S a w L) (hH : NoH L) (hd : ∀ d, o.dst = some d → d < N) {x v : Operand} {X V' : Abs.X} {t : TypeId} {mv : Bool} {n : Nat} (hx : OpRel nm X x) (hv : OpRel nm V' v) (hvo : V'.okC = true)
    (ho : o.op = .store t x v) (ht : szOf P t = some n) (hn : n ≠ 0) (hr : (evOp Cl d (.store mv n X V')).run S = some r) : OpsTo P a w o (Aft nm N S w L a o.dst r.1 r.2) := by
  simp only [evOp] at hr
  obtain ⟨p, h1, h2⟩ := Q.run_bind_some hr
  clear hr
  obtain ⟨⟨vv, ws1⟩, h3, h4⟩ := Q.run_bind_some h2
  clear h2
  obtain ⟨hg, h5⟩ := Q.run_guard_some h4
  clear h4
  simp only [beq_iff_eq] at hg
  have rp := rd_val R hx h1
  obtain ⟨L1, O1, V1⟩ := tk_rep (Mid.init R) R (hH.free 0) hvo hv h3
  dsimp only at V1 O1 hg h5
  have hnt : ∀ vs, vv ≠ .tup vs := by rintro vs rfl; exact hn (by rw [← hg]; rfl)
  have run : ∀ (B o' : Nat), a.eval x = .pointer (some ⟨B, o', none⟩) → (a.eval v).cells.size = n → (∀ j, j < n → (w.cell? ⟨B, o' + j, none⟩).isSome = true) → (∀ j, j < n → w.frozen? ⟨B, o' + j, none⟩ = false) → (∀ u ∈ (a.eval v).cells.toList, u.oneCell' = true) →
      (execOp a.eval o).run P w = .ok .skip (w.setCells B o' (a.eval v).cells.toList) := by
    intro B o' hb hs hc hf h1
    have hst := run_storeCells_cells (P := P) B o' (a.eval v).cells.toList 0 w (by simpa [hs] using hc) (by simpa [hs] using hf) h1
    simp only [Nat.add_zero] at hst
    have : (Instr.storeAt t (a.eval x) (a.eval v)).run P w = .ok () (w.setCells B o' (a.eval v).cells.toList) := by
      rw [hb]
      simp [Instr.storeAt, Instr.sureAddr, storeVar, run_sizeOf' ht, hs, hst]
    simp [execOp, ho, this]
  have limc : ∀ (hlv : ∀ c ∈ vv.cells, c ≠ .dead), (a.eval v).cells.size = n ∧ (∀ j c, vv.cells[j]? = some c → LimC nm w L S.γ w L1 (S.wrs ws1).γ 0 (0 + j) c ((a.eval v).cells.getD (0 + j) undef)) ∧ (∀ u ∈ (a.eval v).cells.toList, u.oneCell' = true) := by
    intro hlv
    obtain ⟨c1, c2⟩ := V1.cells O1.mid.stp hnt hlv
    refine ⟨by omega, fun j c hc => ?_, fun u hu => ?_⟩
    · have hj : j < (a.eval v).cells.size := by rw [← c1]; exact (List.getElem?_eq_some_iff.1 hc).1
      have := c2 j c _ hc (Array.getElem?_eq_getElem hj)
      simpa [Array.getD, hj] using this
    · obtain ⟨j, hj, hju⟩ := List.mem_iff_getElem.1 hu
      have hj' : j < (a.eval v).cells.size := by simpa using hj
      have hcj : j < vv.cells.length := by omega
      have := c2 j vv.cells[j] u (by simp) (by rw [Array.getElem?_eq_getElem hj']; simpa using hju)
      exact (this.rep O1.mid.stp).oneCell (hlv _ (List.getElem_mem hcj))
  split at h5
  · -- a box
    rename_i r0 g c
    obtain ⟨⟨cs, ws2⟩, h6, h7⟩ := Q.run_bind_some h5
    clear h5
    rw [Q.run_bind, atP_run, Option.bind_some] at h7
    obtain ⟨hg2, h8⟩ := Q.run_guard_some h7
    clear h7
    obtain rfl := Q.run_pure_some h8
    simp only [Bool.and_eq_true, Bool.not_eq_true', beq_iff_eq, decide_eq_true_eq] at hg2
    obtain ⟨⟨hG, hgg⟩, hcn⟩ := hg2
    have hlive : ∀ c ∈ vv.cells, c ≠ .dead := by
      have aux : ∀ (l : List C) (ws : List Wr) (c0 : Nat) (rr : List C × List Wr), (putCells mv r0 ws c0 l).run S = some rr → ∀ c ∈ l, c ≠ .dead := by
        intro l
        induction l with
        | nil => intro ws c0 rr _ c hc; simp at hc
        | cons y l ih =>
          intro ws c0 rr h c hc
          simp only [putCells] at h
          obtain ⟨r1, g1, g2⟩ := Q.run_bind_some h
          obtain ⟨r2, g3, _⟩ := Q.run_bind_some g2
          rcases List.mem_cons.1 hc with rfl | hc
          · rintro rfl
            cases mv <;> simp [putCell, stMv, stAt, st] at g1
          · exact ih _ _ _ g3 c hc
      exact aux _ _ _ _ h6
    obtain ⟨hs, hlim, hone⟩ := limc hlive
    obtain ⟨L2, O2, hl2, _, R2⟩ := putCells_rep (m := 0) vv.cells O1.mid 0 c (fun j => (a.eval v).cells.getD j undef) hlim h6
    have hl2' : cs.length = vv.cells.length := hl2
    dsimp only at O2 R2 hl2
    cases rp.one_inv with
    | ptr hv0 hgl hp =>
      obtain ⟨B, o', hB, hval⟩ := hp hgg.symm
      have hB2 := O2.mid.boxes B r0 o' hB
      obtain ⟨B', o'', cur, e, fz, k1, k2, k3, k4⟩ := O2.mid.rel.room r0 hG (by omega)
      obtain rfl := O2.mid.rel.boxInj B' B r0 o'' o' k1 hB2
      obtain rfl : o'' = o' := by rw [k1] at hB2; simpa using hB2
      obtain ⟨L3, hR, hM, _, _⟩ := Rel.boxSets (m := 0) hG cs (a.eval v).cells.toList 0 c (S := S) (ws := ws2) O2.mid.rel hB2 (by simp; omega) (by omega) (by
        intro j y u hy hu
        have := R2 j y hy
        rw [Array.getElem?_toList] at hu
        simpa [Array.getD_eq_getD_getElem?, hu] using this)
      refine .skip (run B' (o'' + c) hval hs (fun j hj => ?_) (fun j hj => ?_) hone) (hR.aft (O2.mid.mono.trans hM) hd (m := 0) (.tup (us := #[]) rfl rfl (fun i x u h => by simp at h)))
      · rw [cell?_of k2]; simp; omega
      · exact frozen?_of k2 k3 (by omega)
  · -- a row
    rename_i pl g sz i c
    obtain ⟨⟨zs, ws2⟩, h6, h7⟩ := Q.run_bind_some h5
    clear h5
    obtain ⟨⟨e, x0, rows⟩, h8, h9⟩ := Q.run_bind_some h7
    clear h7
    obtain ⟨rfl, hgg, hE, hnv⟩ := ownAt_run h8
    obtain ⟨row, hrow, h10⟩ := Q.run_ofO_some h9
    clear h9
    obtain ⟨hg2, h11⟩ := Q.run_guard_some h10
    clear h10
    simp only [decide_eq_true_eq] at hg2
    obtain ⟨ws3, hws, h12⟩ := Q.run_ofO_some h11
    clear h11
    obtain rfl := Q.run_pure_some h12
    have hlive : ∀ c ∈ vv.cells, c ≠ .dead := by
      have aux : ∀ (l : List C) (ws : List Wr) (c0 : Nat) (rr : List D × List Wr), (fitRow pl i ws c0 l).run S = some rr → ∀ c ∈ l, c ≠ .dead := by
        intro l
        induction l with
        | nil => intro ws c0 rr _ c hc; simp at hc
        | cons y l ih =>
          intro ws c0 rr h c hc
          simp only [fitRow] at h
          obtain ⟨⟨y1, wsy⟩, g1, g2⟩ := Q.run_bind_some h
          rcases List.mem_cons.1 hc with rfl | hc
          · rintro rfl
            simp [stAt, st] at g1
          · simp only at g2
            split at g2
            · obtain ⟨r2, g3, _⟩ := Q.run_bind_some g2
              exact ih _ _ _ g3 c hc
            · cases g2
      exact aux _ _ _ _ h6
    obtain ⟨hs, hlim, hone⟩ := limc hlive
    obtain ⟨L2, O2, hl2, _, R2⟩ := fitRow_rep (m := 0) vv.cells O1.mid 0 c (fun j => (a.eval v).cells.getD j undef) hlim h6
    have hl2' : zs.length = vv.cells.length := hl2
    dsimp only at O2 R2 hl2
    cases rp.one_inv with
    | eptr hv0 hh hgl hp =>
      obtain ⟨B, o', hB, hval⟩ := hp hgg
      obtain ⟨u0, hu0⟩ := O2.mid.at_own hh hE hnv
      rcases hu0.own_inv with ⟨hnil, _⟩ | ⟨B', o'', cap, cur, e', fz, val, _, hsz, hL', hB', hfz, hlens, hcap, hroom, hvalc, hrr, hu8⟩
      · rw [hnil] at hrow; simp at hrow
      have hL0 := O2.mid.rows B' pl o'' hh hL'
      obtain rfl := O2.mid.inj0 B' B pl o'' o' hL0 hB
      obtain rfl : o'' = o' := by rw [hL0] at hB; simpa using hB
      dsimp only at hcap hlens hL' hB' hvalc hnv hE hrow hws
      have hi : i < rows.length := (List.getElem?_eq_some_iff.1 hrow).1
      have hrl : row.length = sz := hlens row (List.mem_of_getElem? hrow)
      have hidx : i * sz + sz ≤ cap * sz := by
        have : (i + 1) * sz ≤ cap * sz := Nat.mul_le_mul_right _ (by omega)
        rwa [Nat.add_mul, Nat.one_mul] at this
      obtain ⟨L3, hR, hM, _⟩ := Rel.elSets (m := 0) (sz := sz) (i := i) hh zs (a.eval v).cells.toList 0 c x0 (S0 := S) (ws := ws2) (ws' := ws3) O2.mid.rel hE ⟨rows, hnv⟩ hL' (by simp; omega) hws (by
        intro j y u hy hu
        have := R2 j y hy
        rw [Array.getElem?_toList] at hu
        simpa [Array.getD_eq_getD_getElem?, hu] using this)
      refine .skip (run B' (o'' + i * sz + c) hval hs (fun j hj => ?_) (fun j hj => ?_) hone) (hR.aft (O2.mid.mono.trans hM) hd (m := 0) (.tup (us := #[]) rfl rfl (fun i x u h => by simp at h)))
      · rw [cell?_of hB']; simp; omega
      · exact frozen?_of hB' hfz (by omega)
  · cases h5
theorem st_clean {c : C} {k : Key} {j : Nat} {v : Value} {γ : Key → Nat} {rr : C × List Wr} (h : (st ws c).run S = some rr) (hc : c.clean = true) : rr.1.clean = true := by
  cases c with
  | view pl g sz off len =>
    simp only [st] at h
    obtain ⟨res, h1, h2⟩ := Q.run_bind_some h
    obtain ⟨_, h3⟩ := Q.run_guard_some h2
    obtain rfl := Q.run_pure_some h3
    rfl
  | appd => simp [C.clean] at hc
  | mp => simp [C.clean] at hc
  | mref => simp [st] at h
  | eptr => simp [st] at h
  | bld => simp [st] at h
  | dead => simp [st] at h
  | _ => simp only [st] at h; obtain rfl := Q.run_pure_some h; exact hc
theorem fnCells_rep (R0 : Rel nm N S0 a w0 L0) : ∀ (xs : List Abs.X) (ps : List Operand) {ws : List Wr} {L : LabF} (M : Mid nm N S0 w0 L0 ws a w L) (hp : xs.length = ps.length) (hx : ∀ (j : Nat) X x, xs[j]? = some X → ps[j]? = some x → OpRel nm X x ∧ X.okC = true) {rr : List C × List Wr} (hr : (fnCells ws xs).run S0 = some rr),
    ∃ L', Out nm N S0 w0 L0 ws rr.2 a w L L' (fun q => q.k ≠ .h 0) 0 ∧ rr.1.length = xs.length ∧ cleanL rr.1 = true ∧ ∀ (j : Nat) c x, rr.1[j]? = some c → ps[j]? = some x → RepC nm w L' (S0.wrs rr.2).γ (.h 0) 0 c (a.eval x)
  | [], [], ws, L, M, hp, hx, rr, hr => by
    simp only [fnCells] at hr
    obtain rfl := Q.run_pure_some hr
    exact ⟨L, Out.refl M _ 0, rfl, rfl, fun j c x h => by simp at h⟩
  | X :: xs, x :: ps, ws, L, M, hp, hx, rr, hr => by
    simp only [fnCells] at hr
    obtain ⟨v, h1, h2⟩ := Q.run_bind_some hr
    clear hr
    obtain ⟨hX, hXo⟩ := hx 0 X x rfl rfl
    have rv := rd_val R0 hX h1
    have hcl := rd_own hXo h1
    split at h2
    · rename_i c
      obtain ⟨⟨c1, ws1⟩, h3, h4⟩ := Q.run_bind_some h2
      clear h2
      obtain ⟨⟨cs, ws2⟩, h5, h6⟩ := Q.run_bind_some h4
      clear h4
      obtain rfl := Q.run_pure_some h6
      have hco : c.own = false := own_get (j := 0) hcl rfl
      have hcc : c.clean = true := rv.one_inv.clean_of hco
      obtain ⟨L1, O1, R1⟩ := st_rep (m := 0) (j := 0) M (LimC.of_rep M.stp rv.one_inv hco) h3
      obtain ⟨L2, O2, hl, hcl2, R2⟩ := fnCells_rep R0 xs ps O1.mid (by simpa using hp) (fun j X x h1 h2 => hx (j + 1) X x (by simpa using h1) (by simpa using h2)) h5
      have hc1 : c1.clean = true := st_clean (k := .h 0) (j := 0) (v := undef) (γ := S0.γ) h3 hcc
      refine ⟨L2, (O1.weaken (fun q hq h => hq h.1)).trans O2, by simp [hl], by simp [cleanL, hc1, hcl2], ?_⟩
      intro j y z hj hz
      cases j with
      | zero =>
        simp only [List.getElem?_cons_zero, Option.some.injEq] at hj hz
        subst hj; subst hz
        exact R1.stepClean O2.stp hc1 _ _
      | succ j => exact R2 j y z (by simpa using hj) (by simpa using hz)
    · cases h2
  | [], _ :: _, _, _, _, hp, _, _, _ => by simp at hp
  | _ :: _, [], _, _, _, hp, _, _, _ => by simp at hp
theorem ev_mkfn (R : Rel nm N S a w L) (hH : NoH L) (hd : ∀ d, o.dst = some d → d < N) {fid f : Nat} {first cap : Array Operand} {xs ys : List Abs.X} (hft : f < fnsTag) (hf : nm fid = some f) (hp1 : xs.length = first.toList.length) (hx1 : ∀ (j : Nat) X x, xs[j]? = some X → first.toList[j]? = some x → OpRel nm X x ∧ X.okC = true)
    (hp2 : ys.length = cap.toList.length) (hx2 : ∀ (j : Nat) X x, ys[j]? = some X → cap.toList[j]? = some x → OpRel nm X x ∧ X.okC = true) (ho : o.op = .makeFunc (.func fid) first cap)
    (hr : (evOp Cl d (.mkfn f xs ys)).run S = some r) : OpsTo P a w o (Aft nm N S w L a o.dst r.1 r.2) := by
  simp only [evOp] at hr
  obtain ⟨⟨fa, ws1⟩, h1, h2⟩ := Q.run_bind_some hr
  clear hr
  obtain ⟨⟨fb, ws2⟩, h3, h4⟩ := Q.run_bind_some h2
  clear h2
  obtain rfl := Q.run_pure_some h4
  obtain ⟨L1, O1, hl1, hc1, R1⟩ := fnCells_rep R xs first.toList (Mid.init R) hp1 hx1 h1
  obtain ⟨L2, O2, hl2, hc2, R2⟩ := fnCells_rep R ys cap.toList O1.mid hp2 hx2 h3
  have hl1' : fa.length = xs.length := hl1
  have hl2' : fb.length = ys.length := hl2
  refine .val (v := .func (.func fid) (first.map a.eval) (cap.map a.eval)) (w' := w) ?_ (O2.mid.rel.aft O2.mid.mono hd (m := 0) (.one (.fn hft hf (by simp; simp at hp1; omega) (by simp; simp at hp2; omega) ⟨hc1, hc2⟩ ?_ ?_)))
  · simp [execOp, ho, Instr.makeFunc]
  · intro j x u h5 h6
    rw [Array.getElem?_map] at h6
    cases hj : first[j]? with
    | none => simp [hj] at h6
    | some y =>
      simp only [hj, Option.map_some, Option.some.injEq] at h6
      subst h6
      exact (R1 j x y h5 (by rw [Array.getElem?_toList]; exact hj)).stepClean O2.stp (cleanL_get hc1 h5) _ _
  · intro j x u h5 h6
    rw [Array.getElem?_map] at h6
    cases hj : cap[j]? with
    | none => simp [hj] at h6
    | some y =>
      simp only [hj, Option.map_some, Option.some.injEq] at h6
      subst h6
      exact R2 j x y h5 (by rw [Array.getElem?_toList]; exact hj)
end
end
section
section
variable {nm : FuncId → Option Nat} {N : Nat} {S S0 : St} {a : Act} {w w0 : World} {L L0 : LabF} {P : Program} {o : Oper} {Cl : Oracle} {d : Nat} {r : V × List Wr} {ws : List Wr}
theorem ev_allocB (R : Rel nm N S a w L) (hd : ∀ d, o.dst = some d → d < N) {t : TypeId} {z1 : C} (ho : o.op = .alloc t) (hz : zeroC P t = some [.nilp, z1])
    (hr : (evOp Cl d (.allocB t [.nilp, z1])).run S = some r) : OpsTo P a w o (Aft nm N S w L a o.dst r.1 r.2) := by
  simp only [evOp] at hr
  obtain ⟨⟨v, ws0⟩, h1, h2⟩ := Q.run_bind_some hr
  clear hr
  obtain rfl := Q.run_pure_some h2
  obtain ⟨i, z, k1, k2, k3, k4, k5⟩ := zeroC_inv hz
  unfold boxed at h1
  rw [Q.run_bind, atP_run, Option.bind_some] at h1
  obtain ⟨hg, h3⟩ := Q.run_guard_some h1
  clear h1
  have h4 := Q.run_pure_some h3
  simp only [Prod.mk.injEq] at h4
  obtain ⟨rfl, rfl⟩ := h4
  have hn : boxN ((S.wrs []).E (.r (.l d))) = 0 ∨ boxN ((S.wrs []).E (.r (.l d))) = [C.nilp, z1].length := by
    simpa using hg
  obtain ⟨R1, hm, _⟩ := Rel.newBox (S := S) (ws := []) (w := w) R (m := 0) (r := .l d) (cs := [.nilp, z1]) (vs := z.cells) (e := t) rfl (by simp) k3.symm hn
    (fun j x v hx hv => (k5 j x v hx hv).rep _ _ _ _ _)
  have hz0 : z.cells[0]? = some (.pointer none) := by
    have hlt : 0 < z.cells.size := by rw [k3]; simp
    obtain ⟨u, hu⟩ : ∃ u, z.cells[0]? = some u := ⟨_, Array.getElem?_eq_getElem hlt⟩
    have := (k5 0 .nilp u rfl hu).rep (nm := fun _ => none) w L (fun _ => 0) (.h 0) 0
    cases this
    exact hu
  have hγ : S.γ (.r (.l d)) + 1 ≤ (S.wrs ({ k := .b (.l d) 0, v := .one (.bld t) } :: cellWrs (.l d) 0 [.nilp, z1] [{ k := .r (.l d), v := sizeV [C.nilp, z1].length }])).γ (.r (.l d)) := by
    simp only [St.wrs, cellWrs, St.γ_wr]
    simp
  have R2 : Rel nm N (S.wrs ({ k := .b (.l d) 0, v := .one (.bld t) } :: cellWrs (.l d) 0 [.nilp, z1] [{ k := .r (.l d), v := sizeV [C.nilp, z1].length }])) a (w.alloc (.cells z.cells t)) (boxL (.l d) [C.nilp, z1].length 0 w L) := by
    refine R1.writeL { k := .b (.l d) 0, v := .one (.bld t) } _ rfl (fun _ h => h) (fun _ _ _ _ _ h => h) (fun _ _ _ h => h) ?_ (fun B l h => ⟨l, h⟩) R1.rowInj (fun _ _ _ h => h)
    refine ⟨.bld t, rfl, fun _ => ⟨?_, ?_⟩⟩
    · simp only [cellWrs, St.wrs, St.E_wr]
      simp [boxN_sizeV]
    · exact ⟨w.heap.size, 0, z.cells, t, (0, 0), .pointer none, boxL_new, heap_alloc_self w _, fun j _ => by simp, hz0, .bld ⟨_, _, rfl⟩ rfl, rfl, rfl, rfl, k3, .inl rfl⟩
  refine .val (v := .pointer (some ⟨w.heap.size, 0, none⟩)) (w' := w.alloc (.cells z.cells t)) ?_ (R2.aft ((Mono.refl w L).trans hm) hd (m := 0) (.one (.ptr ⟨_, rfl⟩ hγ (fun _ => ⟨_, 0, boxL_new, rfl⟩))))
  have : (Instr.alloc t true (.tuple #[])).run P w = .ok (.pointer (some ⟨w.heap.size, 0, none⟩)) (w.alloc (.cells z.cells t)) := by
    simp [Instr.alloc, zeroValue, typeInfo, k1, k2, newVar, newRow]
  simp [execOp, ho, this]
theorem boxedB_rep {S0 : St} {w0 : World} {L0 : LabF} {ws : List Wr} (M : Mid nm N S0 w0 L0 ws a w L) {m : Nat} {z1 : C} {vs : Array Value} {e : TypeId} (hl : [C.nilp, z1].length = vs.size)
    (hx : ∀ (j : Nat) x v, [C.nilp, z1][j]? = some x → vs[j]? = some v → RepC nm w L (S0.wrs ws).γ (.h m) j x v) {r : V × List Wr} (hr : (boxed d [C.nilp, z1] ws).run S0 = some r) {dst : Option Nat} (hd : ∀ d, dst = some d → d < N) :
    Aft nm N S0 w0 L0 a dst r.1 ({ k := .b (.l d) 0, v := .one (.bld e) } :: r.2) (.pointer (some ⟨w.heap.size, 0, none⟩)) (w.alloc (.cells vs e)) := by
  unfold boxed at hr
  rw [Q.run_bind, atP_run, Option.bind_some] at hr
  obtain ⟨hg, h2⟩ := Q.run_guard_some hr
  clear hr
  obtain rfl := Q.run_pure_some h2
  have hn : boxN ((S0.wrs ws).E (.r (.l d))) = 0 ∨ boxN ((S0.wrs ws).E (.r (.l d))) = [C.nilp, z1].length := by simpa using hg
  obtain ⟨R1, hm, _⟩ := M.rel.newBox (r := .l d) (cs := [.nilp, z1]) (vs := vs) (e := e) rfl (by simp) hl hn hx
  have hz0 : vs[0]? = some (.pointer none) := by
    have hlt : 0 < vs.size := by rw [← hl]; simp
    obtain ⟨u, hu⟩ : ∃ u, vs[0]? = some u := ⟨_, Array.getElem?_eq_getElem hlt⟩
    have := hx 0 .nilp u rfl hu
    cases this
    exact hu
  have hγ : S0.γ (.r (.l d)) + 1 ≤ (S0.wrs ({ k := .b (.l d) 0, v := .one (.bld e) } :: cellWrs (.l d) 0 [.nilp, z1] ({ k := .r (.l d), v := sizeV [C.nilp, z1].length } :: ws))).γ (.r (.l d)) := by
    refine Nat.le_trans (Nat.le_trans ?_ (cellWrs_E S0 (.l d) [.nilp, z1] 0 ({ k := .r (.l d), v := sizeV [C.nilp, z1].length } :: ws) (.r (.l d))).2.2.2) (St.γ_wr_le _ _ _)
    simp only [St.wrs, St.γ_wr, if_true]
    have := St.γ_wrs_le S0 ws (.r (.l d))
    simp; exact this
  have hE2 : boxN ((S0.wrs (cellWrs (.l d) 0 [.nilp, z1] ({ k := .r (.l d), v := sizeV [C.nilp, z1].length } :: ws))).E (.r (.l d))) = 2 := by
    rw [((cellWrs_E S0 (.l d) [.nilp, z1] 0 ({ k := .r (.l d), v := sizeV [C.nilp, z1].length } :: ws) (.r (.l d))).2.1 (fun c hc e => by cases e)).1]
    simp only [St.wrs, St.E_wr, if_true, boxN_sizeV]
    rfl
  have R2 : Rel nm N (S0.wrs ({ k := .b (.l d) 0, v := .one (.bld e) } :: cellWrs (.l d) 0 [.nilp, z1] ({ k := .r (.l d), v := sizeV [C.nilp, z1].length } :: ws))) a (w.alloc (.cells vs e)) (boxL (.l d) [C.nilp, z1].length m w L) := by
    refine R1.writeL { k := .b (.l d) 0, v := .one (.bld e) } _ rfl (fun _ h => h) (fun _ _ _ _ _ h => h) (fun _ _ _ h => h) ?_ (fun B l h => ⟨l, h⟩) R1.rowInj (fun _ _ _ h => h)
    refine ⟨.bld e, rfl, fun _ => ⟨?_, ?_⟩⟩
    · rw [hE2]; omega
    · exact ⟨w.heap.size, 0, vs, e, (0, 0), .pointer none, boxL_new, heap_alloc_self w _, fun j _ => by simp, hz0, .bld ⟨_, _, rfl⟩ rfl, rfl, rfl, rfl, hl.symm, .inl rfl⟩
  exact R2.aft (M.mono.trans hm) hd (.one (.ptr (k := .h 0) ⟨_, rfl⟩ hγ (fun _ => ⟨_, 0, boxL_new, rfl⟩)))
theorem ev_boxB (R : Rel nm N S a w L) (hH : NoH L) (hd : ∀ d, o.dst = some d → d < N) {t : TypeId} {n : Nat} {x : Operand} {X : Abs.X} (hx : OpRel nm X x) (hok : X.okC = true) (ho : o.op = .box t x) (hn : n ≠ 0)
    (hr : (evOp Cl d (.boxB t n X)).run S = some r) : OpsTo P a w o (Aft nm N S w L a o.dst r.1 r.2) := by
  simp only [evOp] at hr
  obtain ⟨⟨v, ws1⟩, h1, h2⟩ := Q.run_bind_some hr
  clear hr
  obtain ⟨⟨cs, ws2⟩, h3, h4⟩ := Q.run_bind_some h2
  clear h2
  obtain ⟨hg, h5⟩ := Q.run_guard_some h4
  clear h4
  simp only [beq_iff_eq] at hg
  obtain ⟨L', O, hl, hc⟩ := part_rep (Mid.init R) R (m := 0) (fun B q o hB e => by have := hH B q o hB; rw [e] at this; simp [Key.isPl] at this) hx hok h1 h3 (by omega)
  dsimp only at h5
  split at h5
  · rename_i z hcs
    obtain ⟨⟨r1, ws3⟩, h6, h7⟩ := Q.run_bind_some h5
    clear h5
    obtain rfl := Q.run_pure_some h7
    refine .val (v := .pointer (some ⟨w.heap.size, 0, none⟩)) (w' := w.alloc (.cells (a.eval x).cells t)) ?_ (boxedB_rep O.mid hl hc h6 hd)
    have : (Instr.box t (a.eval x)).run P w = .ok (.pointer (some ⟨w.heap.size, 0, none⟩)) (w.alloc (.cells (a.eval x).cells t)) := by
      simp [Instr.box, newVar, newRow]
    simp [execOp, ho, this]
  · cases h5
theorem ev_sdata (R : Rel nm N S a w L) (hd : ∀ d, o.dst = some d → d < N) {x : Operand} {X : Abs.X} {t : TypeId} (hx : OpRel nm X x)
    (ho : o.op = .call ⟨.builtin .unsafeSliceData, #[x], #[t]⟩) (hr : (evOp Cl d (.sdata X)).run S = some r) : OpsTo P a w o (Aft nm N S w L a o.dst r.1 r.2) := by
  simp only [evOp] at hr
  obtain ⟨v, h1, h2⟩ := Q.run_bind_some hr
  clear hr
  have hv := rd_val R hx h1
  split at h2
  · rename_i pl g sz off len
    obtain ⟨hg, h3⟩ := Q.run_guard_some h2
    obtain rfl := Q.run_pure_some h3
    simp only [Bool.and_eq_true, Bool.not_eq_true', beq_iff_eq, beq_eq_false_iff_ne] at hg
    obtain ⟨hl0, rfl⟩ := hg
    cases hv.one_inv with
    | view hv0 hh hgl hV =>
      obtain ⟨b, cap, hax, hle, hb⟩ := hv0
      obtain ⟨ad, rfl⟩ := Option.isSome_iff_exists.1 hb
      have hc0 : cap ≠ 0 := by omega
      refine opVal R hd (v := .pointer (some ad)) ?_ (.one (.eptr ⟨_, rfl⟩ hh hgl ?_))
      · rw [execOp_builtin ho, show (#[x] : Array Operand).map a.eval = #[a.eval x] from by simp, hax]
        exact run_v (Lib.run_unsafeSliceData_row _ _ _ _ _ _ hc0)
      · intro hgg
        rcases hV hgg with ⟨h0, _⟩ | ⟨B, o', cap', cur, e, fz, h1', _, hL, _⟩
        · exact absurd h0 hl0
        · rw [hax] at h1'
          simp only [Value.slice.injEq, Option.some.injEq] at h1'
          refine ⟨B, o', hL, ?_⟩
          rw [h1'.1]
          simp
  · cases h2
theorem liesAt_at {e : TypeId} (hc : P.cellsOf e = 1) (count off n : Nat) (hn : off + n ≤ count) : liesAt P P.depth e count off e n = true := by
  have hd : P.depth = (2 * (P.types.size + Made.depth) + 1) + 1 := rfl
  rw [hd]
  simp only [liesAt, Bool.or_eq_true]
  left
  rw [hd]
  simp [rowAt, hc, hn, sameLayout]
  exact .inl (Nat.mod_one off)
theorem run_ustr {pt it ty e : TypeId} (hp : P.underlying pt = some (.pointer e)) (hc : P.cellsOf e = 1) {B off cells : Nat} (hsh : w.shape? B = some (e, cells)) {n : Nat} {k : IntKind} (h0 : n ≠ 0) (hn : off + n ≤ cells) (h63 : n ≤ 9223372036854775807) {s : ByteArray}
    (hload : (loadBytes ⟨B, off, none⟩ .empty n).run P w = .ok s w) :
    (Builtin.unsafeString_ #[pt, it] ty #[.pointer (some ⟨B, off, none⟩), .int k n]).run P w = .ok (.string s) (w.freeze ⟨B, off, none⟩ n) := by
  have hlies := liesAt_at (P := P) hc (cells / P.cellsOf e) off n (by rw [hc]; simpa using hn)
  have h63' : ¬ (9223372036854775807 : Int) < (n : Int) := by omega
  have hmax : IntKind.i64.max = 9223372036854775807 := rfl
  have hneg : ¬ (n : Int) < 0 := by omega
  rw [show Builtin.unsafeString_ #[pt, it] ty #[.pointer (some ⟨B, off, none⟩), .int k n] = (asInt (.int k n) >>= _) from rfl]
  simp [asInt, asIntOf, hmax, h63', hneg, h0, variablesAt, hsh, elemOf, run_underlying hp, hlies, hload]
theorem loadBytes_cells {B : Nat} : ∀ (n off : Nat) (acc : ByteArray) (l : List UInt8), l.length = n → (∀ i b, l[i]? = some b → ∃ m, w.cell? ⟨B, off + i, none⟩ = some (.int .u8 m) ∧ b = UInt8.ofNat m.toNat) →
    (loadBytes ⟨B, off, none⟩ acc n).run P w = .ok ⟨acc.data ++ l.toArray⟩ w
  | 0, off, acc, l, hl, h => by
    have : l = [] := List.length_eq_zero_iff.1 hl
    subst this
    simp [loadBytes]
  | n + 1, off, acc, [], hl, h => by cases hl
  | n + 1, off, acc, b :: t, hl, h => by
    obtain ⟨m, h1, rfl⟩ := h 0 b rfl
    rw [Nat.add_zero] at h1
    have ih := loadBytes_cells (B := B) n (off + 1) (acc.push (UInt8.ofNat m.toNat)) t (by simpa using hl) (fun i b' hb => by
      obtain ⟨m', g1, g2⟩ := h (i + 1) b' (by simpa using hb)
      exact ⟨m', by rw [show off + 1 + i = off + (i + 1) by omega]; exact g1, g2⟩)
    simp only [loadBytes, Sem.run_bind, run_load, h1, Result.andThen]
    rw [add_off]
    refine Eq.trans ih ?_
    congr 1
    apply ByteArray.ext
    simp [ByteArray.push]
theorem freeze_other {B off n B' : Nat} (h : B' ≠ B) : (w.freeze ⟨B, off, none⟩ n).heap[B']? = w.heap[B']? := by
  unfold World.freeze
  split
  · rfl
  · simp only [Array.getElem?_modify]
    rw [if_neg (fun e => h e.symm)]
theorem freeze_dom {B off n : Nat} {cur : Array Value} {e : TypeId} {fz : Nat × Nat} (h : w.heap[B]? = some (.cells cur e fz)) : ∃ cur e fz, (w.freeze ⟨B, off, none⟩ n).heap[B]? = some (.cells cur e fz) := by
  unfold World.freeze
  split
  · exact ⟨_, _, _, h⟩
  · simp only [Array.getElem?_modify, if_true, h, Option.map_some]
    obtain ⟨lo, hi⟩ := fz
    simp only
    split <;> exact ⟨_, _, _, rfl⟩
theorem ev_ustr (R : Rel nm N S a w L) (hd : ∀ d, o.dst = some d → d < N) {x y : Operand} {X Y : Abs.X} {t u : TypeId} (hx : OpRel nm X x) (hy : OpRel nm Y y)
    (ho : o.op = .call ⟨.builtin .unsafeString, #[x, y], #[t, u]⟩) (ht : P.underlying t = some (.pointer 5)) (hc1 : P.cellsOf 5 = 1) (hr : (evOp Cl d (.ustr X Y)).run S = some r) : OpsTo P a w o (Aft nm N S w L a o.dst r.1 r.2) := by
  simp only [evOp] at hr
  obtain ⟨v, h1, h2⟩ := Q.run_bind_some hr
  clear hr
  obtain ⟨vn, h3, h4⟩ := Q.run_bind_some h2
  clear h2
  obtain ⟨n, h5, h6⟩ := Q.run_ofO_some h4
  clear h4
  have hv := rd_val R hx h1
  obtain ⟨kn, hn⟩ := asNat_inv (rd_val R hy h3) h5
  split at h6
  · rename_i pl g sz i c
    obtain ⟨⟨e0, x0, rows⟩, h7, h8⟩ := Q.run_bind_some h6
    clear h6
    obtain ⟨rfl, hgg, hE, hnv⟩ := ownAt_run h7
    obtain ⟨hg, h9⟩ := Q.run_guard_some h8
    clear h8
    obtain ⟨s, hs, h10⟩ := Q.run_ofO_some h9
    clear h9
    obtain rfl := Q.run_pure_some h10
    simp only [Bool.and_eq_true, Bool.not_eq_true', beq_iff_eq, beq_eq_false_iff_ne, decide_eq_true_eq] at hg
    obtain ⟨⟨⟨⟨⟨rfl, rfl⟩, rfl⟩, rfl⟩, hn0⟩, hmax⟩ := hg
    cases hv.one_inv with
    | eptr hv0 hh hgl hp =>
      obtain ⟨B, o', hB, hval⟩ := hp hgg
      have M := Mid.init R
      obtain ⟨u0, hu0⟩ := M.at_own hh hE hnv
      rcases hu0.own_inv with ⟨hnil, _⟩ | ⟨B', o'', cap, cur, e', fz, val, _, hsz, hL', hB', hfz, hlens, hcap, hroom, hvalc, hrr, hu8⟩
      · dsimp only at hnil; subst hnil; simp at hn0
      obtain rfl := R.rowInj B' B pl o'' o' hL' hB
      obtain rfl : o'' = o' := by rw [hL'] at hB; simpa using hB
      simp only [Nat.zero_mul, Nat.add_zero, Nat.mul_one] at hval hroom
      dsimp only at hs hL' hB' hlens hcap hvalc hu8 hn0 hmax hn
      obtain ⟨hl, hb⟩ := toBytes_inv rows hs
      have he5 : e' = 5 := hu8 (.inl (noU8_false.2 ⟨fun e => hn0 (by rw [e]; rfl), fun q hq => by
        obtain ⟨i, hi⟩ := List.getElem?_of_mem hq
        obtain ⟨m, g1, g2, _⟩ := hb i (List.getElem?_eq_some_iff.1 hi).1
        rw [hi] at g2
        simp only [Option.some.injEq] at g2
        subst g2
        rfl⟩))
      subst he5
      have hload : (loadBytes ⟨B', o'', none⟩ .empty rows.length).run P w = .ok ⟨s.toArray⟩ w := by
        have := loadBytes_cells (P := P) (w := w) (B := B') rows.length o'' .empty s hl.symm (fun i b hbi => by
          have hi : i < rows.length := by rw [hl]; exact (List.getElem?_eq_some_iff.1 hbi).1
          obtain ⟨m, g1, g2, g3⟩ := hb i hi
          refine ⟨m, ?_, by rw [hbi] at g3; simpa using g3⟩
          rw [cell?_of hB']
          have h := hvalc i 0 _ g1
          have h2 := hrr i 0 _ g1
          rw [Nat.mul_one, Nat.add_zero] at h
          rw [h]
          generalize val i 0 = vv at h2
          cases h2 with
          | plain h2 => cases h2; rfl)
        simpa using this
      have hrun := run_ustr (P := P) (w := w) (ty := o.type) (it := u) (k := kn) ht hc1 (B := B') (off := o'') (cells := cur.size) (by simp [World.shape?, hB']) hn0 (by omega) (by omega) hload
      have O := M.handOn (m := 0) (j := 0) hh (selOf true rows.length) hE hnv
      have hL1 : relab (cellTo pl 0 0 (selOf true rows.length)) L B' = some (.row ⟨.h 0, 0, []⟩ o'') := by
        have := relab_of_row hL' (cellTo_mov (m := 0) (j := 0) (sel := selOf true rows.length) (Under.refl pl) (by rw [rest_self]; rfl))
        rwa [rest_self] at this
      have hR2 : Rel nm N (S.wrs (setWr [] pl.k (killAt ((S.wrs []).E pl.k) pl x0))) a (w.freeze ⟨B', o'', none⟩ rows.length) (relab (cellTo pl 0 0 (selOf true rows.length)) L) := by
        refine O.mid.rel.growH ?_ ?_ O.mid.rel.rowInj O.mid.rel.boxInj
        · intro B2 l hl2 hpl
          refine ⟨freeze_other (fun e => ?_), hl2⟩
          rw [e, hL1] at hl2
          simp only [Option.some.injEq] at hl2
          have := hpl _ _ hl2.symm
          simp [Key.isPl] at this
        · intro B2 l hl2
          by_cases he : B2 = B'
          · subst he; obtain ⟨_, _, _, h3⟩ := freeze_dom (off := o'') (n := rows.length) hB'; exact (Array.getElem?_eq_some_iff.1 h3).1
          · exact heap_lt (O.mid.rel.dom B2 l hl2) (freeze_other he)
      have hM : Mono w (w.freeze ⟨B', o'', none⟩ rows.length) (relab (cellTo pl 0 0 (selOf true rows.length)) L) (relab (cellTo pl 0 0 (selOf true rows.length)) L) := by
        refine ⟨?_, ?_, ?_, ?_, fun B2 hb2 => ⟨hb2, freeze_other (fun e => by rw [e, hL1] at hb2; cases hb2)⟩, fun B2 _ hb2 => ⟨hb2, freeze_other (fun e => by rw [e, hL1] at hb2; cases hb2)⟩, fun _ _ _ h => h⟩ <;>
          (unfold World.freeze; split <;> simp)
      refine .val (v := .string ⟨s.toArray⟩) (w' := w.freeze ⟨B', o'', none⟩ rows.length) ?_ (hR2.aft (O.mid.mono.trans hM) hd (m := 0) (.one (.d (.plain .str))))
      rw [execOp_builtin ho, show (#[x, y] : Array Operand).map a.eval = #[a.eval x, a.eval y] from by simp, hval, hn]
      exact run_v hrun
  · cases h6
end
end
end Go.Abs
