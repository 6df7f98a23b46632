/- The steps that an operation is made of. -/
import Derived.Test.YtjndnconlakjkaaAbsRel
set_option linter.unusedVariables false
set_option linter.unusedSimpArgs false
namespace Go.Abs

theorem getWr_E (S : St) : ∀ (ws : List Wr) (k : Key), (S.wrs ws).E k = (getWr ws k).getD (S.E k)
  | [], k => rfl
  | x :: t, k => by
    simp only [St.wrs, St.E_wr, getWr]
    by_cases h : x.k = k
    · simp [h]
    · simp only [h, if_false]; exact getWr_E S t k

theorem atP_run (S : St) (ws : List Wr) (k : Key) : (atP ws k).run S = some ⟨(S.wrs ws).E k, S.γ k⟩ := by
  rw [getWr_E]
  unfold atP
  simp only [Q.run_bind, Q.run_at, Option.bind_some]
  cases getWr ws k <;> rfl

theorem St.γ_wrs_le (S : St) : ∀ (ws : List Wr) (k : Key), S.γ k ≤ (S.wrs ws).γ k
  | [], _ => Nat.le_refl _
  | x :: t, k => by
    simp only [St.wrs, St.γ_wr]
    have := γ_wrs_le S t k
    by_cases h : x.k = k
    · subst h; simp only [if_true]; split <;> omega
    · simp only [h, if_false]; exact this

theorem Step.same (w : World) (L : LabF) {γ γ' : Key → Nat} (h : ∀ k, γ k ≤ γ' k) : Step w w L L γ γ' :=
  ⟨fun _ h => ⟨h, rfl⟩, h, fun _ _ _ _ _ h => ⟨h, fun cur e fz hB => ⟨cur, hB, rfl⟩⟩, fun _ _ _ _ _ _ _ => rfl, fun _ _ _ _ h => h⟩

theorem St.γ_wr_le (S : St) (x : Wr) (k : Key) : S.γ k ≤ (S.wr x).γ k := by
  rw [St.γ_wr]; split <;> (try split) <;> omega

/-- The counts behind a write. -/
def bump (S : St) (k : Key) (k' : Key) : Nat := if k = k' then S.γ k' + 1 else S.γ k'
theorem γ_bump (S : St) (k : Key) (v : V) : (S.wr { k, v }).γ = bump S k := by
  funext k'
  rw [St.γ_wr]
  unfold bump
  by_cases h : k = k' <;> simp [h]

section
variable {nm : FuncId → Option Nat} {N : Nat} {S : St} {a : Act} {w : World} {L : LabF}

/-- A write that turns neither frame nor world. -/
theorem Rel.writeL (h : Rel nm N S a w L) (x : Wr) (L' : LabF) (hk : x.keep = false)
    (himm : ∀ B, L B = some .imm → L' B = some .imm)
    (hown : ∀ B q o, q.k ≠ x.k → q.k.isPl = true → L B = some (.row q o) → L' B = some (.row q o))
    (hbox : ∀ B r o, L B = some (.box r o) → L' B = some (.box r o))
    (hx : NewOk nm S.E (S.wr x).γ a w L' x.k x.v)
    (hd : ∀ B l, L' B = some l → ∃ l0, L B = some l0) (hri : RowInj L') (hbi : ∀ B r o, L' B = some (.box r o) → L B = some (.box r o)) :
    Rel nm N (S.wr x) a w L' := by
  refine h.write x rfl h.defers (fun _ _ => rfl) ?_ (fun B q o h1 h2 h3 => ⟨hown B q o h1 h2 h3, rfl⟩) (fun B r o _ hL => ⟨hbox B r o hL, fun cur e fz hB => ⟨cur, hB, rfl, fun _ _ => rfl⟩⟩) hx ?_ hri ?_
  · refine ⟨fun B hB => ⟨himm B hB, rfl⟩, S.γ_wr_le x, ?_, fun _ _ _ _ _ _ _ => rfl, fun B r o _ hB => hbox B r o hB⟩
    intro B q o hq hγ hL
    have : q.k ≠ x.k := by
      intro e
      rw [St.γ_wr, e] at hγ
      simp [hk] at hγ
    exact ⟨hown B q o this hq hL, fun cur e fz hB => ⟨cur, hB, rfl⟩⟩
  · intro B l hB
    obtain ⟨l0, h0⟩ := hd B l hB
    exact h.dom B l0 h0
  · intro B B' r o o' h1 h2
    exact h.boxInj B B' r o o' (hbi B r o h1) (hbi B' r o' h2)

/-- An entry is forgotten, or a count turned. -/
theorem Rel.kill (h : Rel nm N S a w L) (k : Key) (hk : ∀ r, k ≠ .r r) : Rel nm N (S.wr { k, v := V.dead }) a w L := by
  refine h.writeL { k, v := V.dead } L rfl (fun _ h => h) (fun _ _ _ _ _ h => h) (fun _ _ _ h => h) ?_ (fun B l h => ⟨l, h⟩) h.rowInj (fun _ _ _ h => h)
  cases k with
  | s i => exact .one .dead
  | b r c => exact ⟨.dead, rfl, fun hyd => absurd rfl hyd⟩
  | r r => exact absurd rfl (hk r)
  | h i => trivial
  | a k => trivial

/-- Labels by a turn of places; what has no place any more bears none. -/
def relab (f : Place → Option Place) (L : LabF) : LabF := fun B =>
  match L B with
  | some (.row q o) => (f q).map fun q' => .row q' o
  | x => x

theorem relab_row {f : Place → Option Place} {B o : Nat} {q : Place} (h : relab f L B = some (.row q o)) : ∃ q0, L B = some (.row q0 o) ∧ f q0 = some q := by
  unfold relab at h
  split at h
  · rename_i q0 o0 hL
    cases hf : f q0 with
    | none => simp [hf] at h
    | some q1 => simp only [hf, Option.map_some, Option.some.injEq, Lab.row.injEq] at h; exact ⟨q0, by rw [hL, h.2], by rw [hf, h.1]⟩
  · exact absurd h (by rename_i h1; exact h1 q o)
theorem relab_of_row {f : Place → Option Place} {B o : Nat} {q q' : Place} (h : L B = some (.row q o)) (hf : f q = some q') : relab f L B = some (.row q' o) := by
  simp [relab, h, hf]
theorem relab_imm {f : Place → Option Place} {B : Nat} : relab f L B = some .imm ↔ L B = some .imm := by
  unfold relab
  split
  · rename_i q0 o0 hL
    cases f q0 <;> simp [hL]
  · rfl
theorem relab_box {f : Place → Option Place} {B o : Nat} {r : Root} : relab f L B = some (.box r o) ↔ L B = some (.box r o) := by
  unfold relab
  split
  · rename_i q0 o0 hL
    cases f q0 <;> simp [hL]
  · rfl
theorem relab_dom {f : Place → Option Place} {B : Nat} {l : Lab} (h : relab f L B = some l) : ∃ l0, L B = some l0 := by
  unfold relab at h
  split at h
  · rename_i q0 o0 hL; exact ⟨_, hL⟩
  · exact ⟨_, h⟩
theorem relab_inj {f : Place → Option Place} (h : RowInj L) (hf : ∀ q q' t B B' o o', f q = some t → f q' = some t → L B = some (.row q o) → L B' = some (.row q' o') → q = q') : RowInj (relab f L) := by
  intro B B' pl o o' h1 h2
  obtain ⟨q, g1, g2⟩ := relab_row h1
  obtain ⟨q', g3, g4⟩ := relab_row h2
  obtain rfl := hf q q' pl B B' o o' g2 g4 g1 g3
  exact h B B' q o o' g1 g3

/-- Nothing is under way. -/
def NoH (L : LabF) : Prop := ∀ B q o, L B = some (.row q o) → q.k.isPl = true
/-- Nothing is under way under that number. -/
def FreeH (L : LabF) (m : Nat) : Prop := ∀ B q o, L B = some (.row q o) → q.k ≠ .h m

/-- What lay in a slot is under way. -/
theorem Rel.take (h : Rel nm N S a w L) (i m : Nat) (hm : FreeH L m) :
    ∃ L', Rel nm N (S.wr { k := .s i, v := V.dead }) a w L' ∧ RepV nm w L' (S.wr { k := .s i, v := V.dead }).γ (.h m) (S.E (.s i)) (a.tmps.getD i undef) ∧
      (∀ B, L B = some .imm ↔ L' B = some .imm) ∧ (∀ B q o, q.k ≠ .s i → q.k ≠ .h m → (L B = some (.row q o) ↔ L' B = some (.row q o))) ∧ (∀ B, L' B = none ↔ L B = none) ∧
      (∀ B r o, L B = some (.box r o) ↔ L' B = some (.box r o)) ∧ (∀ B q o, L' B = some (.row q o) → q.k ≠ .s i) := by
  let f : Place → Option Place := fun q => if q.k = .s i then some (q.at (.h m) q.j) else some q
  have hfs : ∀ q, ∃ t, f q = some t := fun q => by by_cases hq : q.k = .s i <;> simp [f, hq]
  have hrel : Rel nm N (S.wr { k := .s i, v := V.dead }) a w (relab f L) := by
    refine h.writeL { k := .s i, v := V.dead } (relab f L) rfl (fun B hB => relab_imm.2 hB) ?_ (fun B r o hB => relab_box.2 hB) (.one .dead) (fun B l hB => relab_dom hB) ?_ (fun B r o hB => relab_box.1 hB)
    · intro B q o hq _ hL
      exact relab_of_row hL (by simp only [f]; rw [if_neg hq])
    · refine relab_inj h.rowInj ?_
      intro q q' t B B' o o' h1 h2 hB hB'
      simp only [f] at h1 h2
      by_cases hq : q.k = .s i
      · rw [if_pos hq] at h1
        by_cases hq' : q'.k = .s i
        · rw [if_pos hq'] at h2
          rw [← h2] at h1
          simp only [Option.some.injEq, Place.at, Place.mk.injEq, true_and] at h1
          cases q; cases q'; simp_all
        · rw [if_neg hq'] at h2
          rw [← h1] at h2
          simp only [Option.some.injEq] at h2
          exact absurd (by rw [h2]; rfl) (hm B' q' o' hB')
      · rw [if_neg hq] at h1
        by_cases hq' : q'.k = .s i
        · rw [if_pos hq'] at h2
          rw [← h2] at h1
          simp only [Option.some.injEq] at h1
          exact absurd (by rw [h1]; rfl) (hm B q o hB)
        · rw [if_neg hq'] at h2
          rw [← h2] at h1
          simpa using h1
  refine ⟨relab f L, hrel, ?_, fun B => relab_imm.symm, ?_, ?_, fun B r o => relab_box.symm, ?_⟩
  · refine (h.slot i).step ?_ ?_
    · refine ⟨fun B hB => ⟨relab_imm.2 hB, rfl⟩, S.γ_wr_le _, ?_, fun _ _ _ _ _ _ _ => rfl, fun B r o _ hB => relab_box.2 hB⟩
      intro B q o hq hγ hL
      have hne : q.k ≠ .s i := by intro e; rw [St.γ_wr, e] at hγ; simp at hγ
      exact ⟨relab_of_row hL (by simp only [f]; rw [if_neg hne]), fun cur e fz hB => ⟨cur, hB, rfl⟩⟩
    · intro B q o hq hL
      exact ⟨relab_of_row hL (by simp only [f]; rw [if_pos hq]), rfl⟩
  · intro B q o h1 h2
    constructor
    · intro hL; exact relab_of_row hL (by simp only [f]; rw [if_neg h1])
    · intro hL
      obtain ⟨q0, h3, h4⟩ := relab_row hL
      simp only [f] at h4
      by_cases hq : q0.k = .s i
      · rw [if_pos hq] at h4
        simp only [Option.some.injEq] at h4
        exact absurd (by rw [← h4]; rfl) h2
      · rw [if_neg hq] at h4
        simp only [Option.some.injEq] at h4
        rw [← h4]; exact h3
  · intro B
    unfold relab
    split
    · rename_i q0 o0 hL
      obtain ⟨t, ht⟩ := hfs q0
      simp [hL, ht]
    · rfl
  · intro B q o hL
    obtain ⟨q0, h3, h4⟩ := relab_row hL
    simp only [f] at h4
    by_cases hq : q0.k = .s i
    · rw [if_pos hq] at h4
      simp only [Option.some.injEq] at h4
      rw [← h4]; simp [Place.at]
    · rw [if_neg hq] at h4
      simp only [Option.some.injEq] at h4
      rw [← h4]; exact hq

/-- What is under way comes into a slot, in the frame too. -/
theorem Rel.slotPut (h : Rel nm N S a w L) {i m : Nat} {x : V} {v : Value} (hi : i < N) (hv : RepV nm w L S.γ (.h m) x v) :
    ∃ L', Rel nm N (S.wr { k := .s i, v := x }) (a.put (some i) v) w L' ∧ NoH L' ∧ Mono w w L L' ∧
      (∀ B q o, q.k ≠ .s i → q.k.isPl = true → L B = some (.row q o) → L' B = some (.row q o)) := by
  let f : Place → Option Place := fun q => if q.k = .s i then none else if q.k = .h m then some (q.at (.s i) q.j) else if q.k.isPl = false then none else some q
  have hrow : ∀ B q o, q.k ≠ .s i → q.k.isPl = true → L B = some (.row q o) → relab f L B = some (.row q o) := by
    intro B q o h1 h2 hL
    have h3 : q.k ≠ .h m := fun e => by rw [e] at h2; simp [Key.isPl] at h2
    exact relab_of_row hL (by simp only [f]; rw [if_neg h1, if_neg h3, if_neg (by rw [h2]; simp)])
  have hst : Step w w L (relab f L) S.γ (S.wr { k := .s i, v := x }).γ := by
    refine ⟨fun B hB => ⟨relab_imm.2 hB, rfl⟩, S.γ_wr_le _, ?_, fun _ _ _ _ _ _ _ => rfl, fun B r o _ hB => relab_box.2 hB⟩
    intro B q o hq hγ hL
    have hne : q.k ≠ .s i := by intro e; rw [St.γ_wr, e] at hγ; simp at hγ
    exact ⟨hrow B q o hne hq hL, fun cur e fz hB => ⟨cur, hB, rfl⟩⟩
  have hput : (a.put (some i) v).tmps = a.tmps.setIfInBounds i v := rfl
  refine ⟨relab f L, ?_, ?_, ?_, hrow⟩
  · refine h.write { k := .s i, v := x } (by simp [hput]) h.defers ?_ hst (fun B q o h1 h2 h3 => ⟨hrow B q o h1 h2 h3, rfl⟩) (fun B r o _ hL => ⟨relab_box.2 hL, fun cur e fz hB => ⟨cur, hB, rfl, fun _ _ => rfl⟩⟩) ?_ ?_ ?_ ?_
    · intro j hj
      rw [hput]
      have hne : i ≠ j := fun e => hj (by rw [e])
      simp [Array.getD_eq_getD_getElem?, Array.getElem?_setIfInBounds_ne hne]
    · show RepV nm w (relab f L) _ (.s i) x ((a.put (some i) v).tmps.getD i undef)
      have hg : (a.put (some i) v).tmps.getD i undef = v := by
        rw [hput]
        have : i < a.tmps.size := by rw [h.size]; exact hi
        simp [Array.getD_eq_getD_getElem?, Array.getElem?_setIfInBounds, this]
      rw [hg]
      refine hv.step hst ?_
      intro B q o hq hL
      exact ⟨relab_of_row hL (by simp only [f]; rw [if_neg (by rw [hq]; simp), if_pos hq]), rfl⟩
    · intro B l hB
      obtain ⟨l0, h0⟩ := relab_dom hB
      exact h.dom B l0 h0
    · refine relab_inj h.rowInj ?_
      intro q q' t B B' o o' h1 h2 _ _
      simp only [f] at h1 h2
      by_cases hq : q.k = .s i
      · simp [hq] at h1
      by_cases hq' : q'.k = .s i
      · simp [hq'] at h2
      rw [if_neg hq] at h1
      rw [if_neg hq'] at h2
      by_cases hm1 : q.k = .h m
      · rw [if_pos hm1] at h1
        by_cases hm2 : q'.k = .h m
        · rw [if_pos hm2] at h2
          rw [← h2] at h1
          simp only [Option.some.injEq, Place.at, Place.mk.injEq, true_and] at h1
          cases q; cases q'; simp_all
        · rw [if_neg hm2] at h2
          split at h2
          · simp at h2
          · rw [← h1] at h2; simp only [Option.some.injEq] at h2; exact absurd (by rw [h2]; rfl) hq'
      · rw [if_neg hm1] at h1
        split at h1
        · simp at h1
        · by_cases hm2 : q'.k = .h m
          · rw [if_pos hm2] at h2
            rw [← h2] at h1; simp only [Option.some.injEq] at h1; exact absurd (by rw [h1]; rfl) hq
          · rw [if_neg hm2] at h2
            split at h2
            · simp at h2
            · rw [← h2] at h1; simpa using h1
    · intro B B' r o o' h1 h2
      exact h.boxInj B B' r o o' (relab_box.1 h1) (relab_box.1 h2)
  · intro B q o hB
    obtain ⟨q0, h1, h2⟩ := relab_row hB
    simp only [f] at h2
    split at h2
    · simp at h2
    · split at h2
      · simp only [Option.some.injEq] at h2; rw [← h2]; rfl
      · split at h2
        · simp at h2
        · rename_i h3; simp only [Option.some.injEq] at h2; rw [← h2]; simpa using h3
  · refine ⟨rfl, rfl, rfl, Nat.le_refl _, fun B hB => ⟨relab_imm.2 hB, rfl⟩, ?_, fun B i o hB => relab_box.2 hB⟩
    intro B _ hB
    exact ⟨by simp [relab, hB], rfl⟩

/-- A cell of an entry turns for another reading of the same value. -/
theorem RepV.setCell {w' : World} {L' : LabF} {γ γ' : Key → Nat} {k : Key} {x : V} {v : Value} {j : Nat} {c c' : C} (h : RepV nm w L γ k x v) (hc : x.cells[j]? = some c)
    (hs : Step w w' L L' γ γ')
    (hown : ∀ B q o, q.k = k → q.j ≠ j → L B = some (.row q o) → L' B = some (.row q o) ∧ w'.heap[B]? = w.heap[B]?)
    (hj : ∀ u, RepC nm w L γ k j c u → RepC nm w' L' γ' k j c' u) : RepV nm w' L' γ' k (x.setCell j c') v := by
  cases h with
  | @one c0 _ h =>
    simp only [V.cells] at hc
    cases j with
    | zero =>
      simp only [List.getElem?_cons_zero, Option.some.injEq] at hc
      subst hc
      simp only [V.setCell, if_true]
      exact .one (hj _ h)
    | succ j => simp at hc
  | @agg cs vs hl h =>
    simp only [V.cells] at hc
    simp only [V.setCell]
    refine .agg (by simpa using hl) ?_
    intro j' c1 u h1 h2
    rw [List.getElem?_set] at h1
    by_cases hjj : j = j'
    · subst hjj
      simp only [if_true] at h1
      split at h1
      · simp only [Option.some.injEq] at h1
        subst h1
        exact hj u (h j c u hc h2)
      · simp at h1
    · simp only [hjj, if_false] at h1
      refine (h j' c1 u h1 h2).step hs ?_
      intro B q o hq1 hq2 hL
      have := hown B q o hq1 (by rw [hq2]; exact fun e => hjj e.symm) hL
      rwa [← hq1, ← hq2, Place.at_self]
  | tup => simp [V.cells] at hc

open Classical in
/-- What lies under a place is nobody's any more. -/
noncomputable def freezeL (t : Place) (L : LabF) : LabF := fun B =>
  match L B with
  | some (.row q o) => if Under t q then some .imm else some (.row q o)
  | x => x

theorem freezeL_imm {t : Place} {B : Nat} (h : L B = some .imm) : freezeL t L B = some .imm := by simp [freezeL, h]
theorem freezeL_box {t : Place} {B o : Nat} {r : Root} : freezeL t L B = some (.box r o) ↔ L B = some (.box r o) := by
  unfold freezeL
  split
  · rename_i q0 o0 hL
    rw [hL]
    split <;> simp
  · rfl
theorem freezeL_row {t q : Place} {B o : Nat} (h : L B = some (.row q o)) (hn : ¬ Under t q) : freezeL t L B = some (.row q o) := by simp [freezeL, h, hn]
theorem freezeL_under {t q : Place} {B o : Nat} (h : L B = some (.row q o)) (hn : Under t q) : freezeL t L B = some .imm := by simp [freezeL, h, hn]
theorem freezeL_row' {t q : Place} {B o : Nat} (h : freezeL t L B = some (.row q o)) : L B = some (.row q o) ∧ ¬ Under t q := by
  unfold freezeL at h
  split at h
  · rename_i q0 o0 hL
    split at h
    · simp at h
    · rename_i hn
      simp only [Option.some.injEq, Lab.row.injEq] at h
      obtain ⟨rfl, rfl⟩ := h
      exact ⟨hL, hn⟩
  · rename_i h1; exact absurd h (h1 q o)
theorem freezeL_dom {t : Place} {B : Nat} {l : Lab} (h : freezeL t L B = some l) : ∃ l0, L B = some l0 := by
  unfold freezeL at h
  split at h
  · rename_i q0 o0 hL; exact ⟨_, hL⟩
  · exact ⟨_, h⟩
theorem freezeL_none {t : Place} {B : Nat} : freezeL t L B = none ↔ L B = none := by
  unfold freezeL
  split
  · rename_i q0 o0 hL
    rw [hL]
    split <;> simp
  · rfl
theorem freezeL_imm' {t : Place} {B : Nat} (h : freezeL t L B = some .imm) : L B = some .imm ∨ ∃ q o, L B = some (.row q o) ∧ Under t q := by
  unfold freezeL at h
  split at h
  · rename_i q0 o0 hL
    split at h
    · rename_i hu; exact .inr ⟨q0, o0, hL, hu⟩
    · simp at h
  · exact .inl h
theorem freezeL_inj {t : Place} (h : RowInj L) : RowInj (freezeL t L) := fun B B' pl o o' h1 h2 => h B B' pl o o' (freezeL_row' h1).1 (freezeL_row' h2).1
theorem freezeL_mono (t : Place) : Mono w w L (freezeL t L) :=
  ⟨rfl, rfl, rfl, Nat.le_refl _, fun B hB => ⟨freezeL_imm hB, rfl⟩, fun B _ hB => ⟨freezeL_none.2 hB, rfl⟩, fun B i o hB => freezeL_box.2 hB⟩

/-- The data of a cell of an entry. -/
def cellD (S : St) (k : Key) (j : Nat) : Option D :=
  match (S.E k).cells[j]? with
  | some (.d x) => some x
  | _ => none

theorem Under.key {t q : Place} (h : Under t q) : q.k = t.k ∧ q.j = t.j := by obtain ⟨r, rfl⟩ := h; exact ⟨rfl, rfl⟩

theorem bump_le (S : St) (k k' : Key) : S.γ k' ≤ bump S k k' := by unfold bump; split <;> omega
theorem bump_ne {S : St} {k k' : Key} (h : bump S k k' = S.γ k') : k' ≠ k := by
  intro e; subst e; simp [bump] at h

/-- A cell of an entry turns; labels turn with it. -/
theorem Rel.setCellL (h : Rel nm N S a w L) {k : Key} {j : Nat} {c c' : C} {L' : LabF}
    (hk : (∃ i, k = .s i) ∨ ∃ r c, k = .b r c) (hE : (S.E k).cells[j]? = some c) (hcd : c ≠ .dead)
    (himm : ∀ B, L B = some .imm → L' B = some .imm)
    (hown : ∀ B q o, q.k ≠ k → q.k.isPl = true → L B = some (.row q o) → L' B = some (.row q o))
    (hownj : ∀ B q o, q.k = k → q.j ≠ j → L B = some (.row q o) → L' B = some (.row q o))
    (hbox : ∀ B r o, L' B = some (.box r o) ↔ L B = some (.box r o))
    (hd : ∀ B l, L' B = some l → ∃ l0, L B = some l0) (hri : RowInj L')
    (hcell : ∀ u, RepC nm w L S.γ k j c u → RepC nm w L' (bump S k) k j c' u) :
    Rel nm N (S.wr { k, v := (S.E k).setCell j c' }) a w L' := by
  have hst : Step w w L L' S.γ (bump S k) := by
    refine ⟨fun B hB => ⟨himm B hB, rfl⟩, bump_le S k, ?_, fun _ _ _ _ _ _ _ => rfl, fun B r o _ hB => (hbox B r o).2 hB⟩
    intro B q o hq hγ hL
    exact ⟨hown B q o (bump_ne hγ) hq hL, fun cur e fz hB => ⟨cur, hB, rfl⟩⟩
  refine h.writeL _ _ rfl himm (fun B q o h1 h2 h3 => hown B q o h1 h2 h3) (fun B r o hB => (hbox B r o).2 hB) ?_ hd hri (fun B r o hB => (hbox B r o).1 hB)
  rw [γ_bump]
  rcases hk with ⟨i, rfl⟩ | ⟨r, cc, rfl⟩
  · exact (h.slot i).setCell hE hst (fun B q o h1 h2 hL => ⟨hownj B q o h1 h2 hL, rfl⟩) hcell
  · obtain ⟨c0, hEk⟩ := h.bone r cc
    rw [hEk] at hE
    simp only [V.cells] at hE
    cases j with
    | succ j => simp at hE
    | zero =>
      simp only [List.getElem?_cons_zero, Option.some.injEq] at hE
      subst hE
      have hlt : cc < boxN (S.E (.r r)) := by
        refine Nat.lt_of_not_le fun hle => hcd ?_
        have := h.bound r cc hle
        rw [hEk] at this
        simpa using this
      refine ⟨c', by simp [hEk, V.setCell], fun _ => ⟨hlt, ?_⟩⟩
      have hold := h.cell r cc _ hEk hcd
      cases r with
      | g i => obtain ⟨v, hv⟩ := hold; exact ⟨v, hcell v hv⟩
      | e i => obtain ⟨B, o, cur, e, fz, v, h1, h2, h3, h4, h5⟩ := hold; exact ⟨B, o, cur, e, fz, v, (hbox _ _ _).2 h1, h2, h3, h4, hcell v h5⟩
      | l i => obtain ⟨B, o, cur, e, fz, v, h1, h2, h3, h4, h5⟩ := hold; exact ⟨B, o, cur, e, fz, v, (hbox _ _ _).2 h1, h2, h3, h4, hcell v h5⟩

/-- A slice of an entry's own is nobody's from now on. -/
theorem Rel.freezeAt (h : Rel nm N S a w L) {k : Key} {j : Nat} {p : List (Nat × Nat)} {x : D} {sz : Nat} {rows : List (List D)}
    (hk : (∃ i, k = .s i) ∨ ∃ r c, k = .b r c) (hE : (S.E k).cells[j]? = some (.d x)) (hn : navD x p = some (.sl .own sz rows)) :
    Rel nm N (S.wr { k, v := (S.E k).setCell j (.d (setD x p (.sl (.im false) sz (plainRs rows)))) }) a w (freezeL ⟨k, j, p⟩ L) := by
  refine h.setCellL hk hE (by simp) (fun B hB => freezeL_imm hB) (fun B q o hq _ hL => freezeL_row hL (fun hu => hq hu.key.1)) (fun B q o _ hq hL => freezeL_row hL (fun hu => hq hu.key.2))
    (fun B r o => freezeL_box) (fun B l hB => freezeL_dom hB) (freezeL_inj h.rowInj) ?_
  intro u hu
  cases hu with
  | d hd =>
    refine .d ?_
    have hap : (⟨k, j, []⟩ : Place).app p = ⟨k, j, p⟩ := by simp [Place.app]
    refine RepD.subst p hd hn (fun B hB => ⟨freezeL_imm hB, rfl⟩) ?_ ?_
    · intro B' q o' _ h2 h3
      rw [hap] at h2
      exact freezeL_row h3 h2
    · intro u' hu'
      rw [hap] at hu' ⊢
      refine .plain ?_
      have := RepD.freeze (w' := w) (L' := freezeL ⟨k, j, p⟩ L) (Under ⟨k, j, p⟩) (fun q i c h => h.sub i c) (fun B hB => ⟨freezeL_imm hB, rfl⟩) (fun B q o hq hL => ⟨freezeL_under hL hq, rfl⟩) hu' (Under.refl _)
      simpa [plainD] using this

/-- A world that has grown, or drawn; labels for what is new. -/
theorem Rel.grow (h : Rel nm N S a w L) {w' : World} {L' : LabF} (hheap : ∀ B l, L B = some l → w'.heap[B]? = w.heap[B]?) (hL : ∀ B l, L B = some l → L' B = some l)
    (hd : Dom w' L') (hri : RowInj L') (hbi : BoxInj L') : Rel nm N S a w' L' := by
  have hst : Step w w' L L' S.γ S.γ := by
    refine ⟨fun B hB => ⟨hL B _ hB, hheap B _ hB⟩, fun _ => Nat.le_refl _, ?_, fun B q o _ _ _ hB => hheap B _ hB, fun B r o _ hB => hL B _ hB⟩
    intro B q o _ _ hB
    exact ⟨hL B _ hB, fun cur e fz hc => ⟨cur, (hheap B _ hB).trans hc, rfl⟩⟩
  refine ⟨h.size, h.defers, ?_, ?_, h.bone, h.bound, fun r hg hr => let ⟨B, o, cur, e, fz, h1, h2, h3, h4⟩ := h.room r hg hr; ⟨B, o, cur, e, fz, hL B _ h1, (hheap B _ h1).trans h2, h3, h4⟩, hd, hri, hbi⟩
  · intro i
    refine (h.slot i).step hst ?_
    intro B q o hq hB
    refine ⟨?_, hheap B _ hB⟩
    rw [← hq, Place.at_self]
    exact hL B _ hB
  · intro r c x hx hxd
    exact (h.cell r c x hx hxd).step hst (fun B q o _ hB => ⟨hL B _ hB, hheap B _ hB⟩) (fun B o hB => ⟨hL B _ hB, fun cur e fz hc => ⟨cur, (hheap B _ hB).trans hc, rfl, rfl⟩⟩)

theorem Rel.drew (h : Rel nm N S a w L) : Rel nm N S a w.drew L :=
  h.grow (fun _ _ _ => rfl) (fun _ _ h => h) h.dom h.rowInj h.boxInj

theorem Mono.drew (w : World) (L : LabF) : Mono w w.drew L L := ⟨rfl, rfl, rfl, Nat.le_refl _, fun _ h => ⟨h, rfl⟩, fun _ _ h => ⟨h, rfl⟩, fun _ _ _ h => h⟩

/-- The labels with one more. -/
def LabF.put (L : LabF) (B : Nat) (l : Lab) : LabF := fun B' => if B' = B then some l else L B'
theorem LabF.put_same (L : LabF) (B : Nat) (l : Lab) : L.put B l B = some l := by simp [LabF.put]
theorem LabF.put_other {L : LabF} {B B' : Nat} {l : Lab} (h : B' ≠ B) : L.put B l B' = L B' := by simp [LabF.put, h]

theorem heap_alloc_self (w : World) (o : Obj) : (w.alloc o).heap[w.heap.size]? = some o := by
  show (w.heap.push o)[w.heap.size]? = _
  simp
theorem heap_alloc_lt (w : World) (o : Obj) {B : Nat} (h : B ≠ w.heap.size) : (w.alloc o).heap[B]? = w.heap[B]? := by
  show (w.heap.push o)[B]? = _
  rw [Array.getElem?_push, if_neg (fun e => h e)]

theorem Dom.new (h : Dom w L) : L w.heap.size = none := by
  cases hl : L w.heap.size with
  | none => rfl
  | some l =>
    obtain ⟨cur, e, fz, hB⟩ := h _ _ hl
    simp at hB

/-- A new row of cells, for what is under way. -/
theorem Rel.allocH (h : Rel nm N S a w L) {m j : Nat} (hm : FreeH L m) (cur : Array Value) (e : TypeId) :
    Rel nm N S a (w.alloc (.cells cur e)) (L.put w.heap.size (.row ⟨.h m, j, []⟩ 0)) := by
  have hnew := h.dom.new
  have hne : ∀ B l, L B = some l → B ≠ w.heap.size := fun B l hB e => by rw [e, hnew] at hB; cases hB
  refine h.grow (fun B l hB => heap_alloc_lt w _ (hne B l hB)) (fun B l hB => by rw [LabF.put_other (hne B l hB)]; exact hB) ?_ ?_ ?_
  · intro B l hB
    by_cases he : B = w.heap.size
    · subst he; exact ⟨cur, e, (0, 0), heap_alloc_self w _⟩
    · rw [LabF.put_other he] at hB
      rw [heap_alloc_lt w _ he]
      exact h.dom B l hB
  · intro B B' pl o o' h1 h2
    by_cases he : B = w.heap.size
    · by_cases he' : B' = w.heap.size
      · rw [he, he']
      · subst he
        rw [LabF.put_same] at h1
        rw [LabF.put_other he'] at h2
        simp only [Option.some.injEq, Lab.row.injEq] at h1
        exact absurd (by rw [← h1.1]) (hm B' pl o' h2)
    · rw [LabF.put_other he] at h1
      by_cases he' : B' = w.heap.size
      · subst he'
        rw [LabF.put_same] at h2
        simp only [Option.some.injEq, Lab.row.injEq] at h2
        exact absurd (by rw [← h2.1]) (hm B pl o h1)
      · rw [LabF.put_other he'] at h2
        exact h.rowInj B B' pl o o' h1 h2
  · intro B B' r o o' h1 h2
    by_cases he : B = w.heap.size
    · subst he; rw [LabF.put_same] at h1; simp at h1
    · by_cases he' : B' = w.heap.size
      · subst he'; rw [LabF.put_same] at h2; simp at h2
      · rw [LabF.put_other he] at h1
        rw [LabF.put_other he'] at h2
        exact h.boxInj B B' r o o' h1 h2

theorem Mono.alloc (w : World) (L : LabF) (hd : Dom w L) (o : Obj) (l : Lab) : Mono w (w.alloc o) L (L.put w.heap.size l) := by
  refine ⟨rfl, rfl, rfl, by simp, ?_, ?_, fun B i o hB => by rw [LabF.put_other (fun e => by rw [e, hd.new] at hB; cases hB)]; exact hB⟩
  · intro B hB
    have : B ≠ w.heap.size := fun e => by rw [e, hd.new] at hB; cases hB
    exact ⟨by rw [LabF.put_other this]; exact hB, heap_alloc_lt w _ this⟩
  · intro B hlt hB
    have : B ≠ w.heap.size := by omega
    exact ⟨by rw [LabF.put_other this]; exact hB, heap_alloc_lt w _ this⟩
end
end Go.Abs
