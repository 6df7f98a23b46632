/- Steps that turn memory: rows. -/
import Derived.Test.YtjndnconlakjkaaAbsMem
set_option linter.unusedVariables false
set_option linter.unusedSimpArgs false
namespace Go.Abs
section
variable {nm : FuncId → Option Nat} {N : Nat} {S0 : St} {w0 : World} {L0 : LabF} {ws : List Wr} {a : Act} {w : World} {L : LabF}

theorem V.setCell_self {x : V} {j : Nat} {c : C} (h : x.cells[j]? = some c) : x.setCell j c = x := by
  cases x with
  | one c0 =>
    cases j with
    | zero => simp only [V.cells, List.getElem?_cons_zero, Option.some.injEq] at h; simp [V.setCell, h]
    | succ j => simp [V.cells] at h
  | agg cs =>
    simp only [V.cells] at h
    simp only [V.setCell]
    congr 1
    obtain ⟨hj, rfl⟩ := List.getElem?_eq_some_iff.1 h
    exact List.set_getElem_self hj
  | tup vs => simp [V.cells] at h

theorem V.cells_setCell {x : V} {j : Nat} {c c' : C} (h : x.cells[j]? = some c) : (x.setCell j c').cells[j]? = some c' := by
  cases x with
  | one c0 =>
    cases j with
    | zero => simp [V.setCell, V.cells]
    | succ j => simp [V.cells] at h
  | agg cs =>
    simp only [V.cells] at h
    obtain ⟨hj, rfl⟩ := List.getElem?_eq_some_iff.1 h
    simp [V.setCell, V.cells, hj]
  | tup vs => simp [V.cells] at h

/-- A cell of an entry turns, with memory and labels. -/
theorem Rel.setCellW {S : St} (h : Rel nm N S a w L) {k : Key} {j : Nat} {c c' : C} {w' : World} {L' : LabF} {kp : Bool}
    (hk : k.isPl = true) (hE : (S.E k).cells[j]? = some c) (hcd : c ≠ .dead)
    (hs : Step w w' L L' S.γ (S.wr { k, v := (S.E k).setCell j c', keep := kp }).γ)
    (hown : ∀ B q o, q.k ≠ k → q.k.isPl = true → L B = some (.row q o) → L' B = some (.row q o) ∧ w'.heap[B]? = w.heap[B]?)
    (hownj : ∀ B q o, q.k = k → q.j ≠ j → L B = some (.row q o) → L' B = some (.row q o) ∧ w'.heap[B]? = w.heap[B]?)
    (hbox : ∀ B r o, L B = some (.box r o) → L' B = some (.box r o) ∧ w'.heap[B]? = w.heap[B]?)
    (hd : Dom w' L') (hri : RowInj L') (hbi : BoxInj L')
    (hcell : ∀ u, RepC nm w L S.γ k j c u → RepC nm w' L' (S.wr { k, v := (S.E k).setCell j c', keep := kp }).γ k j c' u) :
    Rel nm N (S.wr { k, v := (S.E k).setCell j c', keep := kp }) a w' L' := by
  refine h.write _ rfl h.defers (fun _ _ => rfl) hs (fun B q o h1 h2 h3 => hown B q o h1 h2 h3)
    (fun B r o _ hL => ⟨(hbox B r o hL).1, fun cur e fz hB => ⟨cur, ((hbox B r o hL).2).trans hB, rfl, fun _ _ => rfl⟩⟩) ?_ hd hri hbi
  rcases isPl_cases hk with ⟨i, rfl⟩ | ⟨r, cc, rfl⟩
  · exact (h.slot i).setCell hE hs hownj hcell
  · obtain ⟨c0, hEk⟩ := h.bone r cc
    rw [hEk] at hE
    simp only [V.cells] at hE
    cases j with
    | succ j => simp at hE
    | zero =>
      simp only [List.getElem?_cons_zero, Option.some.injEq] at hE
      subst hE
      have hlt : cc < boxN (S.E (.r r)) := by
        refine Nat.lt_of_not_le fun hle => hcd ?_
        have := h.bound r cc hle
        rw [hEk] at this
        simpa using this
      refine ⟨c', by simp [hEk, V.setCell], fun _ => ⟨hlt, ?_⟩⟩
      have hold := h.cell r cc _ hEk hcd
      have tr : (∃ B o cur e fz v, L B = some (.box r o) ∧ w.heap[B]? = some (.cells cur e fz) ∧ unfroz cur.size fz ∧ cur[o + cc]? = some v ∧ RepC nm w L S.γ (.b r cc) 0 c0 v) →
          (∃ B o cur e fz v, L' B = some (.box r o) ∧ w'.heap[B]? = some (.cells cur e fz) ∧ unfroz cur.size fz ∧ cur[o + cc]? = some v ∧
            RepC nm w' L' (S.wr { k := .b r cc, v := (S.E (.b r cc)).setCell 0 c', keep := kp }).γ (.b r cc) 0 c' v) := by
        rintro ⟨B, o, cur, e, fz, v, h1, h2, h3, h4, h5⟩
        obtain ⟨g1, g2⟩ := hbox B r o h1
        exact ⟨B, o, cur, e, fz, v, g1, g2.trans h2, h3, h4, hcell v h5⟩
      cases r with
      | g i => obtain ⟨v, hv⟩ := hold; exact ⟨v, hcell v hv⟩
      | e i => exact tr hold
      | l i => exact tr hold

/-- What was under way comes into a cell of a row. -/
def toEl (t : Place) (m j : Nat) : Place → Option Place := fun q =>
  if q.k = .h m ∧ q.j = j then some (t.app q.p) else some q

open Classical in
noncomputable def elL (t : Place) (m j : Nat) (L : LabF) : LabF := fun B =>
  match L B with
  | some (.row q o) => if q.k = .h m ∧ q.j = j then some (.row (t.app q.p) o) else if Under t q then none else some (.row q o)
  | x => x

theorem elL_imm {t : Place} {m j B : Nat} : elL t m j L B = some .imm ↔ L B = some .imm := by
  unfold elL
  split
  · rename_i q o hL
    rw [hL]
    split
    · simp
    · split <;> simp
  · rfl
theorem elL_box {t : Place} {m j B o : Nat} {r : Root} : elL t m j L B = some (.box r o) ↔ L B = some (.box r o) := by
  unfold elL
  split
  · rename_i q o' hL
    rw [hL]
    split
    · simp
    · split <;> simp
  · rfl
theorem elL_none {t : Place} {m j B : Nat} (h : L B = none) : elL t m j L B = none := by simp [elL, h]
theorem elL_dom {t : Place} {m j B : Nat} {l : Lab} (h : elL t m j L B = some l) : ∃ l0, L B = some l0 := by
  unfold elL at h
  split at h
  · rename_i q o hL; exact ⟨_, hL⟩
  · exact ⟨_, h⟩
theorem elL_keep {t : Place} {m j B o : Nat} {q : Place} (h : L B = some (.row q o)) (h1 : ¬ (q.k = .h m ∧ q.j = j)) (h2 : ¬ Under t q) : elL t m j L B = some (.row q o) := by
  simp only [elL, h]; rw [if_neg h1, if_neg h2]
theorem elL_mov {t : Place} {m j B o : Nat} {q : Place} (h : L B = some (.row q o)) (h1 : q.k = .h m ∧ q.j = j) : elL t m j L B = some (.row (t.app q.p) o) := by
  simp only [elL, h]; rw [if_pos h1]
theorem elL_back {t : Place} {m j B o : Nat} {q : Place} (h : elL t m j L B = some (.row q o)) :
    (∃ q0, L B = some (.row q0 o) ∧ (q0.k = .h m ∧ q0.j = j) ∧ q = t.app q0.p) ∨ (L B = some (.row q o) ∧ ¬ (q.k = .h m ∧ q.j = j) ∧ ¬ Under t q) := by
  unfold elL at h
  split at h
  · rename_i q0 o0 hL
    split at h
    · rename_i h1
      simp only [Option.some.injEq, Lab.row.injEq] at h
      exact .inl ⟨q0, by rw [hL, h.2], h1, h.1.symm⟩
    · rename_i h1
      split at h
      · cases h
      · rename_i h2
        simp only [Option.some.injEq, Lab.row.injEq] at h
        obtain ⟨rfl, rfl⟩ := h
        exact .inr ⟨hL, h1, h2⟩
  · rename_i hn
    exact absurd h (hn q o)
theorem elL_inj {t : Place} {m j : Nat} (h : RowInj L) : RowInj (elL t m j L) := by
  intro B B' pl o o' h1 h2
  rcases elL_back h1 with ⟨q, a1, a2, a3⟩ | ⟨a1, a2, a3⟩ <;> rcases elL_back h2 with ⟨q', b1, b2, b3⟩ | ⟨b1, b2, b3⟩
  · have := Place.app_inj (a3.symm.trans b3)
    have : q = q' := by cases q; cases q'; simp_all
    subst this
    exact h B B' q o o' a1 b1
  · exact absurd ⟨q.p, a3⟩ b3
  · exact absurd ⟨q'.p, b3⟩ a3
  · exact h B B' pl o o' a1 b1

theorem RepC.flatD {γ : Key → Nat} {k : Key} {j : Nat} {z : D} {v : Value} (h : RepC nm w L γ k j (.d z) v) (hf : z.flat = true) : RepP w L z v := by
  cases h with
  | d h =>
    cases h with
    | plain h => exact h
    | ownE => simp [D.flat] at hf
    | own => simp [D.flat] at hf

theorem γ_wr2 (S : St) (k : Key) (v : V) (kp : Bool) (k' : Key) :
    (S.wrs [{ k, v, keep := kp }, { k := .a k, v := V.dead }]).γ k' = if k' = .a k then S.γ k' + 1 else if k' = k ∧ kp = false then S.γ k' + 1 else S.γ k' := by
  have hka : ∀ k : Key, k ≠ .a k := by
    intro k
    induction k with
    | a k ih => intro e; simp only [Key.a.injEq] at e; exact ih e
    | _ => intro e; cases e
  simp only [St.wrs, St.γ_wr]
  by_cases h1 : k' = .a k
  · subst h1
    simp [hka k]
  · rw [if_neg h1]
    by_cases h2 : k = k'
    · subst h2
      cases kp <;> simp [Ne.symm h1]
    · simp [h2, Ne.symm h1, Ne.symm h2]

/-- One cell of a row of a slice of an entry's own is written. -/
theorem Rel.elSet {S : St} (h : Rel nm N S a w L) {m j : Nat} {pl : Place} {B o i c sz : Nat} {x old z : D} {rows : List (List D)} {u : Value} (hk : pl.k.isPl = true)
    (hE : (S.E pl.k).cells[pl.j]? = some (.d x)) (hn : navD x pl.p = some (.sl .own sz rows)) (hc : cellOf rows i c = some old) (hB : L B = some (.row pl o))
    (hz : RepC nm w L S.γ (.h m) j (.d z) u) :
    ∃ L', Rel nm N (S.wrs [{ k := pl.k, v := (S.E pl.k).setCell pl.j (.d (setD x (pl.p ++ [(i, c)]) z)), keep := old.flat && z.flat }, { k := .a pl.k, v := V.dead }]) a (w.setCell ⟨B, o + i * sz + c, none⟩ u) L' ∧
      Keep w (w.setCell ⟨B, o + i * sz + c, none⟩ u) L L' S.γ (S.wrs [{ k := pl.k, v := (S.E pl.k).setCell pl.j (.d (setD x (pl.p ++ [(i, c)]) z)), keep := old.flat && z.flat }, { k := .a pl.k, v := V.dead }]).γ (fun q => ¬ (q.k = .h m ∧ q.j = j)) ∧
      Mono w (w.setCell ⟨B, o + i * sz + c, none⟩ u) L L' ∧ L' B = some (.row pl o) ∧ (∀ B q o, q.k.isPl = false → L' B = some (.row q o) → L B = some (.row q o)) := by
  obtain ⟨cur, e, fz, hcur⟩ := h.dom B _ hB
  have hne : ∀ {B2 l}, L B2 = some l → l ≠ .row pl o → (w.setCell ⟨B, o + i * sz + c, none⟩ u).heap[B2]? = w.heap[B2]? := by
    intro B2 l hl hnb
    refine heap_setCell_ne _ _ _ _ ?_
    rintro rfl
    rw [hB] at hl
    simp only [Option.some.injEq] at hl
    exact hnb hl.symm
  have hhm : ∀ {q : Place}, q.k.isPl = true → ¬ (q.k = .h m ∧ q.j = j) := fun hq h => by rw [h.1] at hq; simp [Key.isPl] at hq
  have hnu : ¬ Under (pl.sub i c) pl := Under.not_self
  have h1 : Rel nm N (S.wr { k := .a pl.k, v := V.dead }) a w L := h.kill (.a pl.k) (fun r e => by cases e)
  have hka : ∀ k : Key, k ≠ .a k := by
    intro k
    induction k with
    | a k ih => intro e; simp only [Key.a.injEq] at e; exact ih e
    | _ => intro e; cases e
  have hE1 : (S.wr { k := .a pl.k, v := V.dead }).E pl.k = S.E pl.k := by
    rw [St.E_wr]; simp [Ne.symm (hka pl.k)]
  -- the new labels
  have main : ∀ L', (∀ B, L' B = some .imm ↔ L B = some .imm) → (∀ B r o, L' B = some (.box r o) ↔ L B = some (.box r o)) → (∀ B, L B = none → L' B = none) → (∀ B l, L' B = some l → ∃ l0, L B = some l0) → RowInj L' →
      (∀ B q o, ¬ (q.k = .h m ∧ q.j = j) → ¬ Under (pl.sub i c) q → L B = some (.row q o) → L' B = some (.row q o)) →
      (∀ B q o, q.k.isPl = false → L' B = some (.row q o) → L B = some (.row q o)) →
      (((old.flat && z.flat) = true) → L' = L) →
      RepD (w.setCell ⟨B, o + i * sz + c, none⟩ u) L' (pl.sub i c) z u →
      Rel nm N (S.wrs [{ k := pl.k, v := (S.E pl.k).setCell pl.j (.d (setD x (pl.p ++ [(i, c)]) z)), keep := old.flat && z.flat }, { k := .a pl.k, v := V.dead }]) a (w.setCell ⟨B, o + i * sz + c, none⟩ u) L' ∧
      Keep w (w.setCell ⟨B, o + i * sz + c, none⟩ u) L L' S.γ (S.wrs [{ k := pl.k, v := (S.E pl.k).setCell pl.j (.d (setD x (pl.p ++ [(i, c)]) z)), keep := old.flat && z.flat }, { k := .a pl.k, v := V.dead }]).γ (fun q => ¬ (q.k = .h m ∧ q.j = j)) ∧
      Mono w (w.setCell ⟨B, o + i * sz + c, none⟩ u) L L' ∧ L' B = some (.row pl o) ∧ (∀ B q o, q.k.isPl = false → L' B = some (.row q o) → L B = some (.row q o)) := by
    intro L' himm hbox hnone hdm hri hkeep hback hflat hzd
    have himk : ImmKept w (w.setCell ⟨B, o + i * sz + c, none⟩ u) L L' := fun B2 hb => ⟨(himm B2).2 hb, hne hb (by simp)⟩
    have hpl : ∀ {B2 q o2}, q.k.isPl = true → ((S.wrs [{ k := pl.k, v := (S.E pl.k).setCell pl.j (.d (setD x (pl.p ++ [(i, c)]) z)), keep := old.flat && z.flat }, { k := .a pl.k, v := V.dead }]).γ q.k = S.γ q.k) →
        L B2 = some (.row q o2) → L' B2 = some (.row q o2) := by
      intro B2 q o2 hq hγ hL
      cases hf : (old.flat && z.flat) with
      | true => rw [hflat hf]; exact hL
      | false =>
        rw [γ_wr2, hf] at hγ
        refine hkeep B2 q o2 (hhm hq) (fun hu => ?_) hL
        have hqk : q.k = pl.k := hu.key.1
        rw [hqk] at hγ
        simp [hka pl.k] at hγ
    have hst : Step w (w.setCell ⟨B, o + i * sz + c, none⟩ u) L L' S.γ (S.wrs [{ k := pl.k, v := (S.E pl.k).setCell pl.j (.d (setD x (pl.p ++ [(i, c)]) z)), keep := old.flat && z.flat }, { k := .a pl.k, v := V.dead }]).γ := by
      refine ⟨himk, fun k => St.γ_wrs_le S _ k, ?_, ?_, fun B2 r o2 _ hb => (hbox B2 r o2).2 hb⟩
      · intro B2 q o2 hq hγ hL
        refine ⟨hpl hq hγ hL, fun cur2 e2 fz2 hc2 => ?_⟩
        by_cases he : B2 = B
        · subst he; exact ⟨_, heap_setCell_eq w B2 _ u hc2, by simp⟩
        · exact ⟨cur2, (heap_setCell_ne _ _ _ _ he).trans hc2, rfl⟩
      · intro B2 q o2 hq _ hγa hL
        refine hne hL ?_
        intro e
        simp only [Lab.row.injEq] at e
        rw [γ_wr2, e.1, if_pos rfl] at hγa
        omega
    have hri' : ∀ B' q o', L B' = some (.row q o') → q = (⟨pl.k, pl.j, []⟩ : Place).app pl.p → B' = B := by
      intro B' q o' hL he
      rw [Place.app_self] at he
      subst he
      exact h.rowInj B' B q o' o hL hB
    have hcellrep : ∀ v, RepC nm w L S.γ pl.k pl.j (.d x) v → RepC nm (w.setCell ⟨B, o + i * sz + c, none⟩ u) L' (S.wrs [{ k := pl.k, v := (S.E pl.k).setCell pl.j (.d (setD x (pl.p ++ [(i, c)]) z)), keep := old.flat && z.flat }, { k := .a pl.k, v := V.dead }]).γ pl.k pl.j (.d (setD x (pl.p ++ [(i, c)]) z)) v := by
      intro v hv
      cases hv with
      | d hv =>
        refine .d (RepD.set hc pl.p hv hn (by rw [Place.app_self]; exact hB) hri' himk ?_ (by rw [Place.app_self]; exact hzd))
        intro B' q o' hu hnu hL
        rw [Place.app_self] at hnu
        refine hkeep B' q o' (hhm ?_) hnu hL
        rw [hu.key.1]; exact hk
    have hdom : Dom (w.setCell ⟨B, o + i * sz + c, none⟩ u) L' := by
      intro B2 l hl
      obtain ⟨l0, h0⟩ := hdm B2 l hl
      obtain ⟨cur2, e2, fz2, hc2⟩ := h.dom B2 l0 h0
      by_cases he : B2 = B
      · subst he; exact ⟨_, e2, fz2, heap_setCell_eq w B2 _ u hc2⟩
      · exact ⟨cur2, e2, fz2, (heap_setCell_ne _ _ _ _ he).trans hc2⟩
    have hbi : BoxInj L' := fun B1 B2 r o1 o2 g1 g2 => h.boxInj B1 B2 r o1 o2 ((hbox _ _ _).1 g1) ((hbox _ _ _).1 g2)
    have hoth : ∀ B2 q o2, q.k ≠ pl.k ∨ q.j ≠ pl.j → q.k.isPl = true → L B2 = some (.row q o2) → L' B2 = some (.row q o2) ∧ (w.setCell ⟨B, o + i * sz + c, none⟩ u).heap[B2]? = w.heap[B2]? := by
      intro B2 q o2 hq hqp hL
      refine ⟨hkeep B2 q o2 (hhm hqp) (fun hu => ?_) hL, hne hL (fun e => ?_)⟩
      · have := hu.key; simp only [Place.sub] at this; rcases hq with hq | hq
        · exact hq this.1
        · exact hq this.2
      · simp only [Lab.row.injEq] at e
        rcases hq with hq | hq <;> exact hq (by rw [e.1])
    refine ⟨?_, ⟨hst, ?_⟩, ?_, hkeep B pl o (hhm hk) hnu hB, hback⟩
    · -- two writes
      generalize hS' : St.wrs S [{ k := pl.k, v := (S.E pl.k).setCell pl.j (.d (setD x (pl.p ++ [(i, c)]) z)), keep := old.flat && z.flat }, { k := .a pl.k, v := V.dead }] = S' at hst hcellrep ⊢
      have hE' : ∀ k, k ≠ .a pl.k → S'.E k = if pl.k = k then (S.E pl.k).setCell pl.j (.d (setD x (pl.p ++ [(i, c)]) z)) else S.E k := by
        intro k hk2
        rw [← hS']
        simp only [St.wrs, St.E_wr, Ne.symm hk2, if_false]
      have hEr : ∀ r, S'.E (.r r) = S.E (.r r) := fun r => by rw [hE' _ (by simp), if_neg (fun e => by rw [e] at hk; simp [Key.isPl] at hk)]
      have hbx : ∀ B2 r o2, L B2 = some (.box r o2) → L' B2 = some (.box r o2) ∧ (w.setCell ⟨B, o + i * sz + c, none⟩ u).heap[B2]? = w.heap[B2]? := fun B2 r o2 hL => ⟨(hbox _ _ _).2 hL, hne hL (by simp)⟩
      clear hpl hS'
      generalize w.setCell ⟨B, o + i * sz + c, none⟩ u = w' at *
      refine ⟨h.size, h.defers, ?_, ?_, ?_, ?_, ?_, hdom, hri, hbi⟩
      · intro i2
        rw [hE' _ (by simp)]
        by_cases he : pl.k = .s i2
        · rw [if_pos he, he]
          rw [he] at hE hcellrep
          exact (h.slot i2).setCell hE hst (fun B2 q o2 hq hqj hL => hoth B2 q o2 (.inr hqj) (by rw [hq]; rfl) hL) hcellrep
        · rw [if_neg he]
          refine (h.slot i2).step hst ?_
          intro B2 q o2 hq hL
          rw [← hq, Place.at_self]
          exact hoth B2 q o2 (.inl (by rw [hq]; exact fun e => he e.symm)) (by rw [hq]; rfl) hL
      · intro r cc y hy hyd
        rw [hE' _ (by simp)] at hy
        by_cases he : pl.k = .b r cc
        · rw [if_pos he, he] at hy
          rw [he] at hE hcellrep
          obtain ⟨c0, hEk⟩ := h.bone r cc
          rw [hEk] at hE hy
          simp only [V.cells] at hE
          have hj0 : pl.j = 0 := by
            cases hj : pl.j with
            | zero => rfl
            | succ n => rw [hj] at hE; simp at hE
          rw [hj0] at hE hy hcellrep
          simp only [List.getElem?_cons_zero, Option.some.injEq] at hE
          subst hE
          simp only [V.setCell, if_true, V.one.injEq] at hy
          subst hy
          have hold := h.cell r cc _ hEk (by simp)
          have tr : (∃ B o cur e fz v, L B = some (.box r o) ∧ w.heap[B]? = some (.cells cur e fz) ∧ unfroz cur.size fz ∧ cur[o + cc]? = some v ∧ RepC nm w L S.γ (.b r cc) 0 (.d x) v) →
              (∃ B2 o2 cur2 e2 fz2 v, L' B2 = some (.box r o2) ∧ w'.heap[B2]? = some (.cells cur2 e2 fz2) ∧ unfroz cur2.size fz2 ∧ cur2[o2 + cc]? = some v ∧
                RepC nm w' L' S'.γ (.b r cc) 0 (.d (setD x (pl.p ++ [(i, c)]) z)) v) := fun ⟨B2, o2, cur2, e2, fz2, v, h1, h2, h3, h4, h5⟩ =>
            ⟨B2, o2, cur2, e2, fz2, v, (hbx B2 r o2 h1).1, (hbx B2 r o2 h1).2.trans h2, h3, h4, hcellrep v h5⟩
          cases r with
          | g i' => obtain ⟨v, hv⟩ := hold; exact ⟨v, hcellrep v hv⟩
          | e i' => exact tr hold
          | l i' => exact tr hold
        · rw [if_neg he] at hy
          refine (h.cell r cc y hy hyd).step hst ?_ ?_
          · intro B2 q o2 hq hL
            exact hoth B2 q o2 (.inl (by rw [hq]; exact fun e => he e.symm)) (by rw [hq]; rfl) hL
          · intro B2 o2 hL
            exact ⟨(hbx B2 r o2 hL).1, fun cur2 e2 fz2 hc2 => ⟨cur2, (hbx B2 r o2 hL).2.trans hc2, rfl, rfl⟩⟩
      · intro r cc
        rw [hE' _ (by simp)]
        by_cases he : pl.k = .b r cc
        · rw [if_pos he, he]
          obtain ⟨c0, hEk⟩ := h.bone r cc
          rw [hEk]
          by_cases hj : pl.j = 0
          · exact ⟨.d (setD x (pl.p ++ [(i, c)]) z), by rw [hj]; simp [V.setCell]⟩
          · exact ⟨c0, by simp [V.setCell, hj]⟩
        · rw [if_neg he]; exact h.bone r cc
      · intro r cc hcc
        rw [hEr] at hcc
        have hb := h.bound r cc hcc
        rw [hE' _ (by simp)]
        by_cases he : pl.k = .b r cc
        · rw [he, hb] at hE
          exfalso
          cases hj : pl.j with
          | zero => rw [hj] at hE; simp [V.cells] at hE
          | succ n => rw [hj] at hE; simp [V.cells] at hE
        · rw [if_neg he]; exact hb
      · intro r hg hr
        rw [hEr] at hr ⊢
        obtain ⟨B2, o2, cur2, e2, fz2, h1, h2, h3, h4⟩ := h.room r hg hr
        exact ⟨B2, o2, cur2, e2, fz2, (hbx _ _ _ h1).1, (hbx _ _ _ h1).2.trans h2, h3, h4⟩
    · intro B2 q o2 hq hK hL
      refine ⟨hkeep B2 q o2 hK (fun hu => ?_) hL, hne hL (fun e => ?_)⟩
      · rw [hu.key.1] at hq; simp only [Place.sub] at hq; rw [hk] at hq; cases hq
      · simp only [Lab.row.injEq] at e; rw [e.1, hk] at hq; cases hq
    · refine ⟨rfl, rfl, rfl, by simp, himk, ?_, fun B i o hB => (hbox _ _ _).2 hB⟩
      intro B2 _ hn2
      refine ⟨hnone B2 hn2, heap_setCell_ne _ _ _ _ ?_⟩
      rintro rfl
      rw [hB] at hn2; cases hn2
  cases hf : (old.flat && z.flat) with
  | true =>
    have hzf : z.flat = true := by simp only [Bool.and_eq_true] at hf; exact hf.2
    have := main L (fun _ => Iff.rfl) (fun _ _ _ => Iff.rfl) (fun _ h => h) (fun B l h => ⟨l, h⟩) h.rowInj (fun _ _ _ _ _ h => h) (fun _ _ _ _ h => h) (fun _ => rfl)
      (.plain ((hz.flatD hzf).mono (fun B2 hb => ⟨hb, hne hb (by simp)⟩)))
    rw [hf] at this
    exact ⟨L, this⟩
  | false =>
    have := main (elL (pl.sub i c) m j L) (fun _ => elL_imm) (fun _ _ _ => elL_box) (fun _ h => elL_none h) (fun B l h => elL_dom h) (elL_inj h.rowInj) (fun _ _ _ h1 h2 h => elL_keep h h1 h2)
      (fun B q o hq hL => by
        rcases elL_back hL with ⟨q0, _, _, rfl⟩ | ⟨h1, _⟩
        · simp only [Place.app, Place.sub] at hq; rw [hk] at hq; cases hq
        · exact h1)
      (fun h1 => by rw [hf] at h1; cases h1) (by
        cases hz with
        | d hz =>
          have := RepD.move (w' := w.setCell ⟨B, o + i * sz + c, none⟩ u) (L' := elL (pl.sub i c) m j L) (fun q => (pl.sub i c).app q.p) (fun q => q.k = .h m ∧ q.j = j) (fun _ _ _ h => h)
            (fun q a b _ => Place.app_sub _ _ _ _) (fun B2 hb => ⟨elL_imm.2 hb, hne hb (by simp)⟩) (fun B2 q o2 hq hL => ⟨elL_mov hL hq, hne hL (fun e => by
              simp only [Lab.row.injEq] at e; rw [e.1] at hq; rw [hq.1] at hk; simp [Key.isPl] at hk)⟩) hz ⟨rfl, rfl⟩
          simpa [Place.app] using this)
    rw [hf] at this
    exact ⟨_, this⟩
end
end Go.Abs
