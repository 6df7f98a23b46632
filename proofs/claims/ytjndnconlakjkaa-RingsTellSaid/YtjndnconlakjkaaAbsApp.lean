/- append. -/
import Derived.Test.YtjndnconlakjkaaAbsMem3
set_option linter.unusedVariables false
set_option linter.unusedSimpArgs false
namespace Go.Abs
section
variable {nm : FuncId → Option Nat} {N : Nat} {S0 : St} {w0 : World} {L0 : LabF} {ws : List Wr} {a : Act} {w : World} {L : LabF} {P : Program}

theorem idx_lt {i c n sz : Nat} (hi : i < n) (hc : c < sz) : i * sz + c < n * sz := by
  have : (i + 1) * sz ≤ n * sz := Nat.mul_le_mul_right _ hi
  rw [Nat.add_mul] at this; omega

theorem cellOf_idx {rows : List (List D)} {sz k : Nat} (hlen : ∀ r ∈ rows, r.length = sz) (hk : k < rows.length * sz) : ∃ i c x, cellOf rows i c = some x ∧ k = i * sz + c ∧ i < rows.length ∧ c < sz := by
  have hsz : 0 < sz := by
    rcases Nat.eq_zero_or_pos sz with h | h
    · rw [h] at hk; omega
    · exact h
  have hi : k / sz < rows.length := by rw [Nat.div_lt_iff_lt_mul hsz]; exact hk
  have hc : k % sz < sz := Nat.mod_lt _ hsz
  refine ⟨k / sz, k % sz, (rows[k / sz]'hi)[k % sz]'(by rw [hlen _ (List.getElem_mem hi)]; exact hc), ?_, ?_, hi, hc⟩
  · unfold cellOf
    simp [hi, hlen _ (List.getElem_mem hi), hc]
  · have := Nat.div_add_mod k sz
    rw [Nat.mul_comm] at this; exact this.symm

theorem cellOf_append (a b : List (List D)) (i c : Nat) : cellOf (a ++ b) i c = if i < a.length then cellOf a i c else cellOf b (i - a.length) c := by
  unfold cellOf
  rw [List.getElem?_append]
  split <;> rfl

theorem World.setCells_heap (b : Nat) : ∀ (vs : List Value) (o : Nat) (w : World) {cur : Array Value} {e : TypeId} {fz : Nat × Nat}, w.heap[b]? = some (.cells cur e fz) →
    ∃ cur', (w.setCells b o vs).heap[b]? = some (.cells cur' e fz) ∧ cur'.size = cur.size ∧ (∀ i, i < o → cur'[i]? = cur[i]?) ∧ (∀ j v, vs[j]? = some v → o + j < cur.size → cur'[o + j]? = some v) ∧
      ∀ i, o + vs.length ≤ i → cur'[i]? = cur[i]?
  | [], o, w, cur, e, fz, h => ⟨cur, h, rfl, fun _ _ => rfl, fun j v hv => by simp at hv, fun _ _ => rfl⟩
  | v :: vs, o, w, cur, e, fz, h => by
    have h1 := heap_setCell_eq w b o v h
    obtain ⟨cur', g1, g2, g3, g4, g5⟩ := World.setCells_heap b vs (o + 1) (w.setCell ⟨b, o, none⟩ v) h1
    refine ⟨cur', g1, by simpa using g2, ?_, ?_, ?_⟩
    · intro i hi
      rw [g3 i (by omega), Array.getElem?_setIfInBounds_ne (by omega)]
    · intro j u hu hlt
      cases j with
      | zero =>
        simp only [List.getElem?_cons_zero, Option.some.injEq] at hu
        subst hu
        rw [Nat.add_zero, g3 o (by omega), Array.getElem?_setIfInBounds]
        simp only [if_true]
        rw [if_pos (by omega)]
      | succ j =>
        have := g4 j u (by simpa using hu) (by simp; omega)
        rwa [show o + 1 + j = o + (j + 1) by omega] at this
    · intro i hi
      simp only [List.length_cons] at hi
      rw [g5 i (by omega), Array.getElem?_setIfInBounds_ne (by omega)]

theorem World.setCells_ne (b : Nat) : ∀ (vs : List Value) (o : Nat) (w : World) {B : Nat}, B ≠ b → (w.setCells b o vs).heap[B]? = w.heap[B]?
  | [], _, _, _, _ => rfl
  | v :: vs, o, w, B, h => by rw [World.setCells, World.setCells_ne b vs (o + 1) _ h, heap_setCell_ne _ _ _ _ h]

theorem World.setCells_rest (b : Nat) : ∀ (vs : List Value) (o : Nat) (w : World), (w.setCells b o vs).os = w.os ∧ (w.setCells b o vs).tape = w.tape ∧ (w.setCells b o vs).output = w.output ∧ (w.setCells b o vs).heap.size = w.heap.size ∧ (w.setCells b o vs).drawn = w.drawn
  | [], _, _ => ⟨rfl, rfl, rfl, rfl, rfl⟩
  | v :: vs, o, w => by
    obtain ⟨h1, h2, h3, h4, h5⟩ := World.setCells_rest b vs (o + 1) (w.setCell ⟨b, o, none⟩ v)
    exact ⟨h1, h2, h3, by rw [World.setCells, h4]; simp, h5⟩

/-- What append reads of its second operand. -/
structure Src (P : Program) (sz : Nat) (w : World) (x : Value) (n : Nat) (news : Array Value) : Prop where
  len : ∀ w' : World, (Builtin.lenOf x).run P w' = .ok n w'
  read : ∀ w' : World, w'.heap = w.heap → (Builtin.firstCells sz n x).run P w' = .ok news w'
  size : news.size = n * sz
  one : ∀ u ∈ news, u.oneCell' = true

theorem run_append_in {t u ty e : TypeId} {i : TypeInfo} {d : TypeDesc} (ht : P.underlying t = some (.slice e)) (hu : P.underlying u = some d) (hd : ∀ k, d ≠ .int k) (hi : P.info? e = some i)
    {x : Value} {n : Nat} {news : Array Value} (hx : Src P i.size w x n news) {B o sLen sCap : Nat} (hroom : sLen + n ≤ sCap)
    (hc : ∀ j, j < news.size → (w.cell? ⟨B, o + sLen * i.size + j, none⟩).isSome = true) (hf : ∀ j, j < news.size → w.frozen? ⟨B, o + sLen * i.size + j, none⟩ = false) :
    (Builtin.append_ #[t, u] ty #[.slice (some ⟨B, o, none⟩) sLen sCap, x]).run P w =
      .ok (.slice (some ⟨B, o, none⟩) (sLen + n) sCap) (w.setCells B (o + sLen * i.size) news.toList) := by
  have hz : (match d with | .int _ => true | _ => false) = false := by cases d <;> first | rfl | exact absurd rfl (hd _)
  have hst := run_storeCells_cells (P := P) B (o + sLen * i.size) news.toList 0 w (by simpa using hc) (by simpa using hf) (by simpa using hx.one)
  have hadd : (⟨B, o, none⟩ : Addr).add (sLen * i.size) = ⟨B, o + sLen * i.size, none⟩ := by unfold Addr.add; split <;> simp_all
  simp only [Nat.add_zero] at hst
  simp [Builtin.append_, run_underlying ht, run_underlying hu, sizeOf, typeInfo, hi, hz, hx.len, hx.read, hroom, hst, hadd]

theorem run_append_in0 {t u ty e : TypeId} {i : TypeInfo} {d : TypeDesc} (ht : P.underlying t = some (.slice e)) (hu : P.underlying u = some d) (hd : ∀ k, d ≠ .int k) (hi : P.info? e = some i)
    {x : Value} {news : Array Value} (hx : Src P i.size w x 0 news) {b : Option Addr} {sLen sCap : Nat} (hroom : sLen ≤ sCap) :
    (Builtin.append_ #[t, u] ty #[.slice b sLen sCap, x]).run P w = .ok (.slice b sLen sCap) w := by
  have hz : (match d with | .int _ => true | _ => false) = false := by cases d <;> first | rfl | exact absurd rfl (hd _)
  have hn : news = #[] := by have := hx.size; simpa using this
  subst hn
  cases b with
  | none => simp [Builtin.append_, run_underlying ht, run_underlying hu, sizeOf, typeInfo, hi, hz, hx.len, hx.read, hroom]
  | some b => simp [Builtin.append_, run_underlying ht, run_underlying hu, sizeOf, typeInfo, hi, hz, hx.len, hx.read, hroom, storeCells]

theorem run_append_new {t u ty e : TypeId} {i : TypeInfo} {d : TypeDesc} {z : Value} (ht : P.underlying t = some (.slice e)) (hu : P.underlying u = some d) (hd : ∀ k, d ≠ .int k) (hi : P.info? e = some i) (hz : i.zero = some z)
    {x : Value} {n : Nat} {news : Array Value} (hx : Src P i.size w x n news) {b : Option Addr} {sLen sCap : Nat} {olds : Array Value} (hroom : sCap < sLen + n)
    (ho : ∀ w' : World, w'.heap = w.heap → (Builtin.firstCells i.size sLen (.slice b sLen sCap)).run P w' = .ok olds w')
    (hb0 : i.bytes ≠ 0) (hb : (sLen + n) * i.bytes ≤ 140737488355328) :
    (Builtin.append_ #[t, u] ty #[.slice b sLen sCap, x]).run P w =
      .ok (.slice (some ⟨w.heap.size, 0, none⟩) (sLen + n) (grownCap w (sLen + n) sCap e))
        (w.drew.alloc (.cells (olds ++ news ++ Builtin.zeroCells z.cells (grownCap w (sLen + n) sCap e - (sLen + n))) e)) := by
  have hzz : (match d with | .int _ => true | _ => false) = false := by cases d <;> first | rfl | exact absurd rfl (hd _)
  have hn : ¬ (sLen + n ≤ sCap) := by omega
  have h48' : ¬ (281474976710656 < Builtin.nextslicecap (sLen + n) sCap * i.bytes) := by
    have := growslice_fits hroom hb; omega
  have h1 := ho w.drew rfl
  have h2 := hx.read w.drew rfl
  simp [Builtin.append_, run_underlying ht, run_underlying hu, sizeOf, typeInfo, zeroValue, hi, hz, hzz, hb0, hx.len, hn, h48', Question.forced, h1, h2, newRow, grownCap]

/-- The labels of what comes behind a slice's rows. -/
def srcTo (m m2 n : Nat) : Place → Option Place := fun q =>
  if q.k = .h m2 ∧ q.j = 0 then (match q.p with | (i, c) :: r => some ⟨.h m, 0, (n + i, c) :: r⟩ | [] => none)
  else if q.k = .h m ∧ q.j = 0 then (match q.p with | (i, _) :: _ => if i < n then some q else none | [] => some q)
  else some q

theorem srcTo_fix {m m2 n : Nat} {q : Place} (h : q.k.isPl = true) : srcTo m m2 n q = some q := by
  unfold srcTo
  rw [if_neg (fun e => by rw [e.1] at h; simp [Key.isPl] at h), if_neg (fun e => by rw [e.1] at h; simp [Key.isPl] at h)]

theorem srcTo_cases {m m2 n : Nat} (hne : m ≠ m2) {q t : Place} (h : srcTo m m2 n q = some t) :
    ((q.k = .h m2 ∧ q.j = 0) ∧ ∃ i c r, q.p = (i, c) :: r ∧ t = ⟨.h m, 0, (n + i, c) :: r⟩) ∨
    ((q.k = .h m ∧ q.j = 0) ∧ t = q ∧ ∀ i c r, q.p = (i, c) :: r → i < n) ∨
    (¬ (q.k = .h m2 ∧ q.j = 0) ∧ ¬ (q.k = .h m ∧ q.j = 0) ∧ t = q) := by
  unfold srcTo at h
  split at h
  · rename_i h1
    split at h
    · rename_i i c r hp
      simp only [Option.some.injEq] at h
      exact .inl ⟨h1, i, c, r, hp, h.symm⟩
    · cases h
  · rename_i h1
    split at h
    · rename_i h2
      split at h
      · rename_i i c r hp
        split at h
        · rename_i hi
          simp only [Option.some.injEq] at h
          exact .inr (.inl ⟨h2, h.symm, fun i' c' r' e => by rw [hp] at e; simp only [List.cons.injEq, Prod.mk.injEq] at e; omega⟩)
        · cases h
      · rename_i hp
        simp only [Option.some.injEq] at h
        exact .inr (.inl ⟨h2, h.symm, fun i' c' r' e => by rw [hp] at e; cases e⟩)
    · rename_i h2
      simp only [Option.some.injEq] at h
      exact .inr (.inr ⟨h1, h2, h.symm⟩)

theorem srcTo_inj {m m2 n : Nat} (hne : m ≠ m2) {q q' t : Place} (h1 : srcTo m m2 n q = some t) (h2 : srcTo m m2 n q' = some t) : q = q' := by
  have ext : ∀ {q q' : Place}, q.k = q'.k → q.j = q'.j → q.p = q'.p → q = q' := fun {q q'} a b c => by cases q; cases q'; simp_all
  rcases srcTo_cases hne h1 with ⟨a1, i, c, r, a2, a3⟩ | ⟨a1, a2, a3⟩ | ⟨a1, a2, a3⟩ <;> rcases srcTo_cases hne h2 with ⟨b1, i', c', r', b2, b3⟩ | ⟨b1, b2, b3⟩ | ⟨b1, b2, b3⟩
  · rw [a3] at b3
    simp only [Place.mk.injEq, List.cons.injEq, Prod.mk.injEq, true_and] at b3
    refine ext (a1.1.trans b1.1.symm) (a1.2.trans b1.2.symm) ?_
    rw [a2, b2, b3.2, b3.1.2, show i = i' by omega]
  · have := b3 (n + i) c r (by rw [← b2, a3])
    omega
  · exact absurd (by rw [← b3, a3]; exact ⟨rfl, rfl⟩) b2
  · have := a3 (n + i') c' r' (by rw [← a2, b3])
    omega
  · rw [← a2, ← b2]
  · exact absurd (by rw [← b3, a2]; exact a1) b2
  · exact absurd (by rw [← a3, b3]; exact ⟨rfl, rfl⟩) a2
  · exact absurd (by rw [← a3, b2]; exact b1) a2
  · rw [← a3, ← b3]

theorem srcTo_pl {m m2 n : Nat} (hne : m ≠ m2) {q t : Place} (h : srcTo m m2 n q = some t) (ht : t.k.isPl = true) : q = t := by
  rcases srcTo_cases hne h with ⟨_, i, c, r, _, rfl⟩ | ⟨_, h1, _⟩ | ⟨_, _, h1⟩
  · simp [Key.isPl] at ht
  · exact h1.symm
  · exact h1.symm

/-- Labels turn where nothing but what is under way is. -/
theorem Rel.relabH {S : St} (h : Rel nm N S a w L) {f : Place → Option Place} (hfix : ∀ q : Place, q.k.isPl = true → f q = some q) (hinj : ∀ q q' t, f q = some t → f q' = some t → q = q') :
    Rel nm N S a w (relab f L) := by
  refine h.growH ?_ ?_ (relab_inj h.rowInj (fun q q' t _ _ _ _ h1 h2 _ _ => hinj q q' t h1 h2)) (fun B B' r o o' h1 h2 => h.boxInj B B' r o o' (relab_box.1 h1) (relab_box.1 h2))
  · intro B l hB hl
    refine ⟨rfl, ?_⟩
    cases l with
    | imm => exact relab_imm.2 hB
    | box r o => exact relab_box.2 hB
    | row q o => exact relab_of_row hB (hfix q (hl q o rfl))
  · intro B l hB
    obtain ⟨l0, h0⟩ := relab_dom hB
    exact h.dom B l0 h0

theorem relab_mono (f : Place → Option Place) : Mono w w L (relab f L) :=
  ⟨rfl, rfl, rfl, Nat.le_refl _, fun B hB => ⟨relab_imm.2 hB, rfl⟩, fun B _ hB => ⟨relab_none hB, rfl⟩, fun B i o hB => relab_box.2 hB⟩

/-- The rows of both, in the new labels. -/
theorem app_cont {m : Nat} {pl : Place} (hpl : pl.k.isPl = true ∨ pl = ⟨.h m, 0, []⟩) {m2 n0 : Nat} (hne : m ≠ m2) {rows src : List (List D)} {val val2 : Nat → Nat → Value}
    (h1 : ∀ i c x, cellOf rows i c = some x → RepD w L ((if i < n0 then pl else ⟨.h m, 0, []⟩).sub i c) x (val i c)) (h2 : Cont w L ⟨.h m2, 0, []⟩ src val2) (hlt : ∀ i c x, cellOf rows i c = some x → i < rows.length) :
    ∀ i c x, cellOf (rows ++ src) i c = some x → RepD w (relab (srcTo m m2 rows.length) L) ((if i < min n0 rows.length then pl else ⟨.h m, 0, []⟩).sub i c) x (if i < rows.length then val i c else val2 (i - rows.length) c) := by
  intro i c x hx
  rw [cellOf_append] at hx
  have hH : ∀ {t : Place} {y : D} {u : Value}, RepD w L t y u → (∃ i c r, t = ⟨.h m, 0, (i, c) :: r⟩ ∧ i < rows.length) → RepD w (relab (srcTo m m2 rows.length) L) t y u := by
    intro t y u hy ht
    refine RepD.move id (fun t => ∃ i c r, t = ⟨.h m, 0, (i, c) :: r⟩ ∧ i < rows.length) ?_ (fun _ _ _ _ => rfl) (fun B hB => ⟨relab_imm.2 hB, rfl⟩) ?_ hy ht
    · rintro q i' c' ⟨i, c, r, rfl, hi⟩
      exact ⟨i, c, r ++ [(i', c')], rfl, hi⟩
    · rintro B q o ⟨i, c, r, rfl, hi⟩ hL
      refine ⟨relab_of_row hL ?_, rfl⟩
      unfold srcTo
      rw [if_neg (fun e => by simp only [Key.h.injEq] at e; exact hne e.1), if_pos ⟨rfl, rfl⟩]
      simp only [id, hi, if_true]
  by_cases hi : i < rows.length
  · rw [if_pos hi] at hx ⊢
    have h0 := h1 i c x hx
    by_cases hn : i < n0
    · rw [if_pos hn] at h0
      rw [if_pos (by omega)]
      rcases hpl with hpl | rfl
      · refine RepD.move id (fun q => q.k = pl.k) (fun _ _ _ h => h) (fun _ _ _ _ => rfl) (fun B hB => ⟨relab_imm.2 hB, rfl⟩) ?_ h0 rfl
        intro B q o hq hL
        exact ⟨relab_of_row hL (srcTo_fix (by rw [hq]; exact hpl)), rfl⟩
      · exact hH h0 ⟨i, c, [], rfl, hi⟩
    · rw [if_neg hn] at h0
      rw [if_neg (by omega)]
      exact hH h0 ⟨i, c, [], rfl, hi⟩
  · rw [if_neg hi] at hx ⊢
    rw [if_neg (by omega)]
    have h0 := h2 (i - rows.length) c x hx
    have := RepD.move (w' := w) (L' := relab (srcTo m m2 rows.length) L) (fun q => match q.p with | (i, c) :: r => ⟨.h m, 0, (rows.length + i, c) :: r⟩ | [] => q) (fun q => ∃ i c r, q = ⟨.h m2, 0, (i, c) :: r⟩)
      (by rintro q i' c' ⟨i, c, r, rfl⟩; exact ⟨i, c, r ++ [(i', c')], rfl⟩) (by rintro q i' c' ⟨i, c, r, rfl⟩; rfl) (fun B hB => ⟨relab_imm.2 hB, rfl⟩)
      (by
        rintro B q o ⟨i, c, r, rfl⟩ hL
        refine ⟨relab_of_row hL ?_, rfl⟩
        unfold srcTo
        rw [if_pos ⟨rfl, rfl⟩]) h0 ⟨_, _, [], rfl⟩
    simp only [Place.sub, List.nil_append] at this ⊢
    rwa [show rows.length + (i - rows.length) = i by omega] at this

end
end Go.Abs
