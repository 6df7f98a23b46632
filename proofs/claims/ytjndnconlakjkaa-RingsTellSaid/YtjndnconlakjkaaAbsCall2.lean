/- Calls: entering. -/
import Derived.Test.YtjndnconlakjkaaAbsCall
set_option linter.unusedVariables false
set_option linter.unusedSimpArgs false
namespace Go.Abs

theorem rootIdx_inv : ∀ (rs : List Root) {r : Root} {i k : Nat}, rootIdx rs r i = some k → i ≤ k ∧ rs[k - i]? = some r
  | [], r, i, k, h => by simp [rootIdx] at h
  | x :: t, r, i, k, h => by
    simp only [rootIdx] at h
    split at h
    · rename_i hx
      simp only [Option.some.injEq] at h
      subst h; subst hx
      exact ⟨Nat.le_refl _, by simp⟩
    · obtain ⟨h1, h2⟩ := rootIdx_inv t h
      refine ⟨by omega, ?_⟩
      rw [show k - i = (k - (i + 1)) + 1 by omega, List.getElem?_cons_succ]
      exact h2
theorem rootIdx_of : ∀ (rs : List Root) {r : Root} {i k : Nat}, rs.Nodup → rs[k]? = some r → rootIdx rs r i = some (i + k)
  | [], r, i, k, _, h => by simp at h
  | x :: t, r, i, k, hn, h => by
    simp only [rootIdx]
    cases k with
    | zero => simp at h; subst h; simp
    | succ k =>
      rw [List.getElem?_cons_succ] at h
      have hne : x ≠ r := by
        rintro rfl
        exact (List.nodup_cons.1 hn).1 (List.mem_of_getElem? h)
      rw [if_neg hne, rootIdx_of t (List.nodup_cons.1 hn).2 h]
      congr 1; omega

/-- The labels that the callee sees: what nobody writes, the boxes handed over, the slices of their own in them. -/
def enterL (rs : List Root) (E : Key → V) (L : LabF) : LabF := fun B =>
  match L B with
  | some .imm => some .imm
  | some (.box r o) => (rootIdx rs r 0).map fun i => .box (.e i) o
  | some (.row ⟨.b r c, j, p⟩ o) => match rootIdx rs r 0, E (.b r c) with
    | some i, .one (.d _) => some (.row ⟨.b (.e i) c, j, p⟩ o)
    | _, _ => none
  | _ => none

section
variable {nm : FuncId → Option Nat} {N : Nat} {S S0 : St} {a : Act} {w w0 : World} {L L0 : LabF} {P : Program} {o : Oper} {Cl : Oracle} {d : Nat} {ws : List Wr} {γ : Key → Nat} {rs : List Root} {E : Key → V}

theorem enterL_imm {B : Nat} (h : L B = some .imm) : enterL rs E L B = some .imm := by simp [enterL, h]
theorem enterL_box {B o i : Nat} {r : Root} (h : L B = some (.box r o)) (hi : rootIdx rs r 0 = some i) : enterL rs E L B = some (.box (.e i) o) := by simp [enterL, h, hi]
theorem enterL_row {B o i c j : Nat} {r : Root} {p : List (Nat × Nat)} {x : D} (h : L B = some (.row ⟨.b r c, j, p⟩ o)) (hi : rootIdx rs r 0 = some i) (hE : E (.b r c) = .one (.d x)) : enterL rs E L B = some (.row ⟨.b (.e i) c, j, p⟩ o) := by
  simp [enterL, h, hi, hE]
theorem enterL_back {B : Nat} {l : Lab} (h : enterL rs E L B = some l) : (l = .imm ∧ L B = some .imm) ∨ (∃ r o i, l = .box (.e i) o ∧ L B = some (.box r o) ∧ rootIdx rs r 0 = some i) ∨
    ∃ r c j p o i x, l = .row ⟨.b (.e i) c, j, p⟩ o ∧ L B = some (.row ⟨.b r c, j, p⟩ o) ∧ rootIdx rs r 0 = some i ∧ E (.b r c) = .one (.d x) := by
  unfold enterL at h
  split at h
  · simp only [Option.some.injEq] at h; exact .inl ⟨h.symm, ‹_›⟩
  · rename_i r o hL
    obtain ⟨i, h1, h2⟩ := map_some' h
    exact .inr (.inl ⟨r, o, i, h2, hL, h1⟩)
  · rename_i r c j p o hL
    split at h
    · rename_i i x h1 h2
      simp only [Option.some.injEq] at h
      exact .inr (.inr ⟨r, c, j, p, o, i, x, h.symm, hL, h1, h2⟩)
    · cases h
  · cases h

theorem inL_get : ∀ {l l' : List C} (j : Nat) {c' : C}, inL rs l = some l' → l'[j]? = some c' → ∃ c, l[j]? = some c ∧ c.inC rs = some c'
  | [], l', j, c', h, hj => by simp only [inL, Option.some.injEq] at h; subst h; simp at hj
  | c :: t, l', j, c', h, hj => by
    simp only [inL] at h
    obtain ⟨c1, h1, h2⟩ := Option.bind_eq_some_iff.1 h
    obtain ⟨t1, h3, rfl⟩ := map_some' h2
    cases j with
    | zero => simp at hj; subst hj; exact ⟨c, rfl, h1⟩
    | succ j => obtain ⟨c2, g1, g2⟩ := inL_get j h3 (by simpa using hj); exact ⟨c2, by simpa using g1, g2⟩
theorem inL_length : ∀ {l l' : List C}, inL rs l = some l' → l'.length = l.length
  | [], l', h => by simp only [inL, Option.some.injEq] at h; subst h; rfl
  | c :: t, l', h => by
    simp only [inL] at h
    obtain ⟨c1, h1, h2⟩ := Option.bind_eq_some_iff.1 h
    obtain ⟨t1, h3, rfl⟩ := map_some' h2
    simp [inL_length h3]

theorem ptrsL_mem : ∀ {l : List C} {j : Nat} {c : C} {x : Root × Nat}, l[j]? = some c → x ∈ c.ptrs → x ∈ ptrsL l
  | [], _, _, _, h, _ => by simp at h
  | y :: t, 0, c, x, h, hx => by simp at h; subst h; simp [ptrsL, hx]
  | y :: t, j + 1, c, x, h, hx => by simp only [ptrsL, List.mem_append]; exact .inr (ptrsL_mem (by simpa using h) hx)

mutual
theorem inC_clean : ∀ {c c' : C}, c.clean = true → c.inC rs = some c' → c'.clean = true
  | .d x, c', h, hi => by simp only [C.inC, Option.some.injEq] at hi; subst hi; exact h
  | .ptr r g k, c', h, hi => by simp only [C.inC] at hi; obtain ⟨i, _, rfl⟩ := map_some' hi; rfl
  | .pp cells, c', h, hi => by simp only [C.inC, Option.some.injEq] at hi; subst hi; rfl
  | .fn f x y, c', h, hi => by
    simp only [C.inC] at hi
    obtain ⟨x', h1, h2⟩ := Option.bind_eq_some_iff.1 hi
    obtain ⟨y', h3, rfl⟩ := map_some' h2
    simp only [C.clean, Bool.and_eq_true] at h ⊢
    exact ⟨inL_clean h.1 h1, inL_clean h.2 h3⟩
  | .nilp, c', h, hi => by simp only [C.inC, Option.some.injEq] at hi; subst hi; rfl
  | .nilf, c', h, hi => by simp only [C.inC, Option.some.injEq] at hi; subst hi; rfl
  | .nili, c', h, hi => by simp only [C.inC, Option.some.injEq] at hi; subst hi; rfl
  | .ifc, c', h, hi => by simp only [C.inC, Option.some.injEq] at hi; subst hi; rfl
  | .dead, c', h, hi => by simp only [C.inC, Option.some.injEq] at hi; subst hi; rfl
  | .eptr .., c', h, hi => by simp [C.inC] at hi
  | .view .., c', h, hi => by simp [C.inC] at hi
  | .appd .., c', h, hi => by simp [C.inC] at hi
theorem inL_clean : ∀ {l l' : List C}, cleanL l = true → inL rs l = some l' → cleanL l' = true
  | [], l', h, hi => by simp only [inL, Option.some.injEq] at hi; subst hi; rfl
  | c :: t, l', h, hi => by
    simp only [inL] at hi
    obtain ⟨c1, h1, h2⟩ := Option.bind_eq_some_iff.1 hi
    obtain ⟨t1, h3, rfl⟩ := map_some' h2
    simp only [cleanL, Bool.and_eq_true] at h ⊢
    exact ⟨inC_clean h.1 h1, inL_clean h.2 h3⟩
end

/-- A cell without anything of a place's own, as the callee sees it. -/
theorem RepC.enter {k : Key} {j : Nat} {c : C} {v : Value} (h : RepC nm w L γ k j c v) : ∀ {c' : C}, c.inC rs = some c' → (∀ x ∈ c.ptrs, x.2 = γ (.r x.1)) → c.clean = true → ∀ k' j', RepC nm w (enterL rs E L) (fun _ => 0) k' j' c' v := by
  induction h with
  | @d x v h =>
    intro c' hi hl hc k' j'
    simp only [C.inC, Option.some.injEq] at hi
    subst hi
    cases h with
    | plain h => exact .d (.plain (h.mono (fun B hB => ⟨enterL_imm hB, rfl⟩)))
    | ownE => simp [C.clean] at hc
    | own => simp [C.clean] at hc
  | @ptr r g c v hv hg h =>
    intro c' hi hl hc k' j'
    simp only [C.inC] at hi
    obtain ⟨i, h1, rfl⟩ := map_some' hi
    have hlive := hl (r, g) (by simp [C.ptrs])
    obtain ⟨B, o, h2, h3⟩ := h hlive
    exact .ptr hv (Nat.le_refl _) (fun _ => ⟨B, o, enterL_box h2 h1, h3⟩)
  | eptr => intro c' hi; simp [C.inC] at hi
  | pp hL hB h =>
    intro c' hi hl hc k' j'
    simp only [C.inC, Option.some.injEq] at hi
    subst hi
    refine .pp (enterL_imm hL) hB (fun q x hx => ?_)
    obtain ⟨u, h1, h2⟩ := h q x hx
    exact ⟨u, h1, h2.mono (fun B hB => ⟨enterL_imm hB, rfl⟩)⟩
  | view => intro c' hi; simp [C.inC] at hi
  | appd => intro c' hi; simp [C.inC] at hi
  | @fn f first cap fid fs cs hf h1 h2 hcl h3 h4 ih3 ih4 =>
    intro c' hi hl hc k' j'
    have hcl' := inC_clean hc hi
    simp only [C.inC] at hi
    obtain ⟨x', g1, g2⟩ := Option.bind_eq_some_iff.1 hi
    obtain ⟨y', g3, rfl⟩ := map_some' g2
    simp only [C.clean, Bool.and_eq_true] at hcl'
    simp only [C.ptrs, List.mem_append] at hl
    refine .fn hf (by rw [inL_length g1]; exact h1) (by rw [inL_length g3]; exact h2) hcl' ?_ ?_
    · intro i x u hx hu
      obtain ⟨c0, k1, k2⟩ := inL_get i g1 hx
      exact ih3 i c0 u k1 hu k2 (fun y hy => hl y (.inl (ptrsL_mem k1 hy))) (cleanL_get hcl.1 k1) _ _
    · intro i x u hx hu
      obtain ⟨c0, k1, k2⟩ := inL_get i g3 hx
      exact ih4 i c0 u k1 hu k2 (fun y hy => hl y (.inr (ptrsL_mem k1 hy))) (cleanL_get hcl.2 k1) _ _
  | nilp => intro c' hi _ _ _ _; simp only [C.inC, Option.some.injEq] at hi; subst hi; exact .nilp
  | nilf => intro c' hi _ _ _ _; simp only [C.inC, Option.some.injEq] at hi; subst hi; exact .nilf
  | nili => intro c' hi _ _ _ _; simp only [C.inC, Option.some.injEq] at hi; subst hi; exact .nili
  | ifc => intro c' hi _ _ _ _; simp only [C.inC, Option.some.injEq] at hi; subst hi; exact .ifc
  | dead => intro c' hi _ _ _ _; simp only [C.inC, Option.some.injEq] at hi; subst hi; exact .dead

/-- A cell of a box that is handed over. -/
theorem RepC.enterBox {r : Root} {c0 i : Nat} {c : C} {v : Value} (h : RepC nm w L γ (.b r c0) 0 c v) {c' : C} (hi : c.inC rs = some c') (hl : ∀ x ∈ c.ptrs, x.2 = γ (.r x.1)) (hE : E (.b r c0) = .one c) (hr : rootIdx rs r 0 = some i) :
    RepC nm w (enterL rs E L) (fun _ => 0) (.b (.e i) c0) 0 c' v := by
  cases c with
  | d x =>
    simp only [C.inC, Option.some.injEq] at hi
    subst hi
    cases h with
    | d h =>
      refine .d ?_
      exact RepD.move (fun q => ⟨.b (.e i) c0, q.j, q.p⟩) (fun q => q.k = .b r c0) (fun _ _ _ h => h) (fun _ _ _ _ => rfl) (fun B hB => ⟨enterL_imm hB, rfl⟩) (fun B q o hq hL => by
        obtain ⟨k, j, p⟩ := q
        simp only at hq
        subst hq
        exact ⟨enterL_row hL hr hE, rfl⟩) h rfl
  | appd => simp [C.inC] at hi
  | _ => exact h.enter hi hl (h.clean_of rfl) _ _

theorem argEnts_get : ∀ (vs : List V) (i : Nat) (rest : St) (k : Key), St.get (argEnts i vs ++ rest) k = match k with
    | .s j => if i ≤ j ∧ j < i + vs.length then ⟨vs.getD (j - i) V.dead, 0⟩ else rest.get (.s j)
    | k => rest.get k
  | [], i, rest, k => by
    simp only [argEnts, List.nil_append]
    cases k <;> simp
    intro h1 h2; omega
  | v :: vs, i, rest, k => by
    simp only [argEnts, List.cons_append, St.get]
    have ih := argEnts_get vs (i + 1) rest k
    cases k with
    | s j =>
      simp only at ih ⊢
      by_cases h : i = j
      · subst h; simp
      · rw [if_neg (by simpa using h), ih]
        by_cases h2 : i + 1 ≤ j ∧ j < i + 1 + vs.length
        · rw [if_pos h2, if_pos ⟨by omega, by simp; omega⟩, show j - i = (j - (i + 1)) + 1 by omega]; rfl
        · rw [if_neg h2, if_neg (by simp; omega)]
    | _ => simpa using ih

theorem boxEnts_get (r : Root) : ∀ (cs : List C) (c0 : Nat) (rest : St) (k : Key), St.get (boxEnts r c0 cs ++ rest) k = match k with
    | .b r' c => if r' = r ∧ c0 ≤ c ∧ c < c0 + cs.length then ⟨.one (cs.getD (c - c0) .dead), 0⟩ else rest.get (.b r' c)
    | k => rest.get k
  | [], c0, rest, k => by
    simp only [boxEnts, List.nil_append]
    cases k <;> simp
    intro _ h1 h2; omega
  | x :: cs, c0, rest, k => by
    simp only [boxEnts, List.cons_append, St.get]
    have ih := boxEnts_get r cs (c0 + 1) rest k
    cases k with
    | b r' c =>
      simp only at ih ⊢
      by_cases h : r = r' ∧ c0 = c
      · obtain ⟨rfl, rfl⟩ := h; simp
      · rw [if_neg (by simpa using h), ih]
        by_cases h2 : r' = r ∧ c0 + 1 ≤ c ∧ c < c0 + 1 + cs.length
        · rw [if_pos h2, if_pos ⟨h2.1, by omega, by simp; omega⟩, show c - c0 = (c - (c0 + 1)) + 1 by omega]; rfl
        · rw [if_neg h2, if_neg]
          rintro ⟨h3, h4, h5⟩
          subst h3
          simp only [List.length_cons] at h5
          by_cases h6 : c0 = c
          · exact h ⟨rfl, h6⟩
          · exact h2 ⟨rfl, by omega, by omega⟩
    | _ => simpa using ih

theorem boxesEnts_get : ∀ (bs : List (List C)) (i : Nat) (k : Key), St.get (boxesEnts i bs) k = match k with
    | .r (.e j) => if i ≤ j ∧ j < i + bs.length then ⟨sizeV (bs.getD (j - i) []).length, 0⟩ else ⟨.one .dead, 0⟩
    | .b (.e j) c => if (i ≤ j ∧ j < i + bs.length) ∧ c < (bs.getD (j - i) []).length then ⟨.one ((bs.getD (j - i) []).getD c .dead), 0⟩ else ⟨.one .dead, 0⟩
    | _ => ⟨.one .dead, 0⟩
  | [], i, k => by
    simp only [boxesEnts, St.get]
    cases k with
    | r x => cases x <;> simp
             intro h1 h2; omega
    | b x c => cases x <;> simp
    | _ => rfl
  | b :: bs, i, k => by
    simp only [boxesEnts, St.get]
    have ih := boxesEnts_get bs (i + 1) k
    rw [boxEnts_get]
    cases k with
    | r x =>
      cases x with
      | e j =>
        simp only at ih ⊢
        by_cases h : i = j
        · subst h; simp
        · rw [if_neg (by simpa using h), ih]
          by_cases h2 : i + 1 ≤ j ∧ j < i + 1 + bs.length
          · rw [if_pos h2, if_pos ⟨by omega, by simp; omega⟩, show j - i = (j - (i + 1)) + 1 by omega]; rfl
          · rw [if_neg h2, if_neg (by simp; omega)]
      | _ => simpa using ih
    | b x c =>
      cases x with
      | e j =>
        simp only at ih ⊢
        by_cases h : i = j
        · subst h
          rw [if_neg (by simp)]
          by_cases hc : c < b.length
          · simp [hc]
          · rw [if_neg (by simp; omega), ih, if_neg (by omega), if_neg (by simp; omega)]
        · rw [if_neg (by simp), if_neg (by simp; omega), ih]
          by_cases h2 : (i + 1 ≤ j ∧ j < i + 1 + bs.length) ∧ c < (bs.getD (j - (i + 1)) []).length
          · rw [if_pos h2, if_pos ⟨⟨by omega, by simp; omega⟩, by rw [show j - i = (j - (i + 1)) + 1 by omega]; exact h2.2⟩, show j - i = (j - (i + 1)) + 1 by omega]; rfl
          · rw [if_neg h2, if_neg]
            rintro ⟨⟨h3, h4⟩, h5⟩
            simp only [List.length_cons] at h4
            rw [show j - i = (j - (i + 1)) + 1 by omega] at h5
            exact h2 ⟨⟨by omega, by omega⟩, h5⟩
      | g j => rw [if_neg (by simp)]; simpa using ih
      | l j => rw [if_neg (by simp)]; simpa using ih
    | _ => rw [if_neg (by simp)]; simpa using ih

theorem addPtrs_inv : ∀ (l : List (Root × Nat)) (rs0 : List Root), rs0.Nodup → (addPtrs rs0 l).Nodup ∧ (∃ t, addPtrs rs0 l = rs0 ++ t) ∧ ∀ r ∈ addPtrs rs0 l, r ∈ rs0 ∨ ∃ g, (r, g) ∈ l
  | [], rs0, h => ⟨h, ⟨[], by simp [addPtrs]⟩, fun r hr => .inl hr⟩
  | (x, g) :: t, rs0, h => by
    simp only [addPtrs]
    split
    · obtain ⟨h1, h2, h3⟩ := addPtrs_inv t rs0 h
      exact ⟨h1, h2, fun r hr => (h3 r hr).imp id (fun ⟨g', hg⟩ => ⟨g', by simp [hg]⟩)⟩
    · rename_i hx
      have hn : (rs0 ++ [x]).Nodup := by
        rw [List.nodup_append]
        refine ⟨h, by simp, fun a ha b hb => ?_⟩
        simp only [List.mem_singleton] at hb
        subst hb
        rintro rfl
        exact hx (by simpa using ha)
      obtain ⟨h1, ⟨u, h2⟩, h3⟩ := addPtrs_inv t (rs0 ++ [x]) hn
      refine ⟨h1, ⟨x :: u, by rw [h2]; simp⟩, fun r hr => ?_⟩
      rcases h3 r hr with h4 | ⟨g', h4⟩
      · rcases List.mem_append.1 h4 with h5 | h5
        · exact .inl h5
        · simp only [List.mem_singleton] at h5; subst h5; exact .inr ⟨g, by simp⟩
      · exact .inr ⟨g', by simp [h4]⟩

/-- A box that may be handed over. -/
def LiveR (S0 : St) (ws : List Wr) (r : Root) : Prop := getWr ws (.r r) = none ∧ r.isG = false
def LiveP (S0 : St) (ws : List Wr) (x : Root × Nat) : Prop := x.2 = S0.γ (.r x.1) ∧ LiveR S0 ws x.1

theorem liveAll_inv : ∀ (l : List (Root × Nat)) {u : Unit}, (liveAll ws l).run S0 = some u → ∀ x ∈ l, LiveP S0 ws x
  | [], u, h, x, hx => by simp at hx
  | (r, g) :: t, u, h, x, hx => by
    simp only [liveAll] at h
    have h1 := Q.run_at_some h
    obtain ⟨h2, h3⟩ := Q.run_guard_some h1
    simp only [Bool.and_eq_true, beq_iff_eq, Bool.not_eq_true', Option.isNone_iff_eq_none] at h2
    rcases List.mem_cons.1 hx with rfl | hx
    · exact ⟨h2.1.1.symm, h2.1.2, h2.2⟩
    · exact liveAll_inv t h3 x hx

theorem rawCells_inv {r : Root} : ∀ (n c : Nat) {cs : List C}, (rawCells ws r c n).run S0 = some cs → cs.length = n ∧ ∀ j x, cs[j]? = some x → (S0.wrs ws).E (.b r (c + j)) = .one x
  | 0, c, cs, h => by
    simp only [rawCells, Q.run_pure, Option.some.injEq] at h
    subst h
    exact ⟨rfl, fun j x hj => by simp at hj⟩
  | n + 1, c, cs, h => by
    simp only [rawCells] at h
    rw [Q.run_bind, atP_run, Option.bind_some] at h
    split at h
    · rename_i x hx
      obtain ⟨t, h1, h2⟩ := Q.run_bind_some h
      obtain rfl := Q.run_pure_some h2
      obtain ⟨g1, g2⟩ := rawCells_inv n (c + 1) h1
      refine ⟨by simp [g1], fun j y hj => ?_⟩
      cases j with
      | zero => simp at hj; subst hj; exact hx
      | succ j =>
        have := g2 j y (by simpa using hj)
        rwa [show c + 1 + j = c + (j + 1) by omega] at this
    · cases h

theorem gather_inv : ∀ (fuel : Nat) (rs0 : List Root) (i : Nat) {rs : List Root} {bs : List (List C)}, rs0.Nodup → (gather ws fuel rs0 i).run S0 = some (rs, bs) → rs.Nodup ∧ (∃ t, rs = rs0 ++ t) ∧ (∀ r ∈ rs, r ∈ rs0 ∨ LiveR S0 ws r) ∧ bs.length = rs.length - i ∧
    ∀ (k : Nat) r cs, rs[i + k]? = some r → bs[k]? = some cs → cs.length = boxN (S0.E (.r r)) ∧ (∀ j x, cs[j]? = some x → (S0.wrs ws).E (.b r j) = .one x) ∧ ∀ x ∈ ptrsL cs, LiveP S0 ws x
  | 0, rs0, i, rs, bs, hn, h => by
    simp only [gather, Q.run_ite] at h
    split at h
    · rename_i hle
      obtain ⟨rfl, rfl⟩ : rs = rs0 ∧ bs = [] := by simpa [eq_comm] using h
      exact ⟨hn, ⟨[], by simp⟩, fun r hr => .inl hr, by simp; omega, fun k r cs hk hc => by simp at hc⟩
    · cases h
  | f + 1, rs0, i, rs, bs, hn, h => by
    simp only [gather] at h
    split at h
    · rename_i hnone
      obtain ⟨rfl, rfl⟩ : rs = rs0 ∧ bs = [] := by simpa [eq_comm] using h
      have := List.getElem?_eq_none_iff.1 hnone
      exact ⟨hn, ⟨[], by simp⟩, fun r hr => .inl hr, by simp; omega, fun k r cs hk hc => by simp at hc⟩
    · rename_i r0 hr0
      have h1 := Q.run_at_some h
      obtain ⟨cs0, h2, h3⟩ := Q.run_bind_some h1
      obtain ⟨u, h4, h5⟩ := Q.run_bind_some h3
      obtain ⟨⟨rs', bs'⟩, h6, h7⟩ := Q.run_bind_some h5
      obtain ⟨rfl, rfl⟩ : rs = rs' ∧ bs = cs0 :: bs' := by simpa [eq_comm] using Q.run_pure_some h7
      obtain ⟨a1, ⟨t1, a2⟩, a3⟩ := addPtrs_inv (ptrsL cs0) rs0 hn
      obtain ⟨b1, ⟨t2, b2⟩, b3, b4, b5⟩ := gather_inv f _ (i + 1) a1 h6
      obtain ⟨c1, c2⟩ := rawCells_inv _ _ h2
      have hlv := liveAll_inv _ h4
      have hi : i < rs0.length := (List.getElem?_eq_some_iff.1 hr0).1
      have hlen : rs.length ≥ rs0.length := by rw [b2, a2]; simp
      refine ⟨b1, ⟨t1 ++ t2, by rw [b2, a2]; simp⟩, fun r hr => ?_, by simp [b4]; omega, ?_⟩
      · rcases b3 r hr with h | h
        · rcases a3 r h with h | ⟨g, h⟩
          · exact .inl h
          · exact .inr (hlv _ h).2
        · exact .inr h
      · intro k r cs hk hc
        cases k with
        | zero =>
          simp only [List.getElem?_cons_zero, Option.some.injEq] at hc
          subst hc
          have : r = r0 := by
            rw [b2, a2, Nat.add_zero, List.append_assoc, List.getElem?_append_left hi, hr0] at hk
            simpa using hk.symm
          subst this
          refine ⟨c1, fun j x hj => ?_, hlv⟩
          have := c2 j x hj
          rwa [Nat.zero_add] at this
        | succ k =>
          exact b5 k r cs (by rw [show i + 1 + k = i + (k + 1) by omega]; exact hk) (by simpa using hc)
end
end Go.Abs
