/- What a function's body comes to. -/
import Derived.Test.YtjndnconlakjkaaAbsBody
import Derived.Test.YtjndnconlakjkaaAbsCodeS
set_option linter.unusedVariables false
set_option linter.unusedSimpArgs false
namespace Go.Abs
section
variable {nm : FuncId → Option Nat} {N : Nat} {S S0 : St} {a : Act} {w : World} {L L0 : LabF} {P : Program} {ws : List Wr} {γ : Key → Nat} {rs : List Root} {E : Key → V}

/-- The boxes alone, seen from outside. -/
theorem leave_core (R : Rel nm N S a w L) {bs bs' : List (List C)} (hnd : rs.Nodup) (hbl : bs.length = rs.length)
    (hb : ∀ (k : Nat) r cs, rs[k]? = some r → bs[k]? = some cs → r.isG = false ∧ cs.length = boxN (S.E (.r r)) ∧ (∀ (j : Nat) x, cs[j]? = some x → S.E (.b r j) = .one x) ∧ ∀ y ∈ ptrsL cs, y.2 = S.γ (.r y.1))
    (hbs : inBs rs bs = some bs') : Rel nm 0 (boxesEnts 0 bs') ⟨#[], []⟩ w (enterL rs S.E L) := by
  have box : ∀ j, j < bs'.length → ∃ r cs, rs[j]? = some r ∧ bs[j]? = some cs ∧ inL rs cs = some (bs'.getD j []) ∧ (bs'.getD j []).length = boxN (S.E (.r r)) ∧ r.isG = false ∧ rootIdx rs r 0 = some j ∧
      (∀ (i : Nat) x, cs[i]? = some x → S.E (.b r i) = .one x) ∧ ∀ x ∈ ptrsL cs, x.2 = S.γ (.r x.1) := by
    intro j hj
    have hget : bs'[j]? = some (bs'.getD j []) := getD_some hj
    obtain ⟨cs, h1, h2⟩ := inBs_get j hbs hget
    have hjr : j < rs.length := by rw [← hbl, ← inBs_length hbs]; exact hj
    have hr : rs[j]? = some rs[j] := List.getElem?_eq_getElem hjr
    obtain ⟨c0, c1, c2, c3⟩ := hb j rs[j] cs hr h1
    refine ⟨rs[j], cs, hr, h1, h2, by rw [inL_length h2, c1], c0, ?_, c2, c3⟩
    have := rootIdx_of rs (i := 0) hnd hr
    rwa [Nat.zero_add] at this
  refine ⟨rfl, rfl, ?_, ?_, ?_, ?_, ?_, ?_, ?_, ?_⟩
  · intro i
    rw [boxes_E]
    exact .one .dead
  · intro r c x hx hxd
    have hx' : (boxesEnts 0 bs' : St).E (.b r c) = .one x := hx
    rw [boxes_γ]
    rw [boxes_E] at hx'
    cases r with
    | g i => simp only [V.dead, V.one.injEq] at hx'; exact absurd hx'.symm hxd
    | l i => simp only [V.dead, V.one.injEq] at hx'; exact absurd hx'.symm hxd
    | e j =>
      simp only at hx'
      split at hx'
      · rename_i hjc
        obtain ⟨r0, cs, h1, h2, h3, h4, h5, h6, h7, h8⟩ := box j hjc.1
        simp only [V.one.injEq] at hx'
        obtain ⟨y, k1, k2⟩ := inL_get c h3 (show (bs'.getD j [])[c]? = some x by rw [← hx']; exact getD_some hjc.2)
        have hyE := h7 c y k1
        have hyd : y ≠ .dead := by
          rintro rfl
          simp only [C.inC, Option.some.injEq] at k2
          exact hxd k2.symm
        have hat := R.cell r0 c y hyE hyd
        have ex : ∃ B o cur e fz v, L B = some (.box r0 o) ∧ w.heap[B]? = some (.cells cur e fz) ∧ unfroz cur.size fz ∧ cur[o + c]? = some v ∧ RepC nm w L S.γ (.b r0 c) 0 y v := by
          cases r0 with
          | g i => simp [Root.isG] at h5
          | e i => exact hat
          | l i => exact hat
        obtain ⟨B, o, cur, e, fz, v, m1, m2, m3, m4, m5⟩ := ex
        exact ⟨B, o, cur, e, fz, v, enterL_box m1 h6, m2, m3, m4, m5.enterBox k2 (fun z hz => h8 z (ptrsL_mem k1 hz)) hyE h6⟩
      · simp only [V.dead, V.one.injEq] at hx'; exact absurd hx'.symm hxd
  · intro r c
    rw [boxes_E]
    cases r with
    | e j =>
      simp only
      split
      · exact ⟨(bs'.getD j []).getD c .dead, rfl⟩
      · exact ⟨.dead, rfl⟩
    | g i => exact ⟨.dead, rfl⟩
    | l i => exact ⟨.dead, rfl⟩
  · intro r c hc
    rw [boxes_E] at hc ⊢
    cases r with
    | e j =>
      simp only at hc ⊢
      by_cases hj : j < bs'.length
      · rw [if_pos hj, boxN_sizeV] at hc
        rw [if_neg (fun h => by omega)]; rfl
      · rw [if_neg (fun h => hj h.1)]; rfl
    | g i => rfl
    | l i => rfl
  · intro r hg hr
    rw [boxes_E] at hr ⊢
    cases r with
    | e j =>
      simp only at hr ⊢
      by_cases hj : j < bs'.length
      · rw [if_pos hj, boxN_sizeV] at hr ⊢
        obtain ⟨r0, cs, h1, h2, h3, h4, h5, h6, h7, h8⟩ := box j hj
        rw [h4] at hr ⊢
        obtain ⟨B, o, cur, e, fz, m1, m2, m3, m4⟩ := R.room r0 h5 hr
        exact ⟨B, o, cur, e, fz, enterL_box m1 h6, m2, m3, m4⟩
      · rw [if_neg hj] at hr; simp [V.dead, boxN] at hr
    | g i => simp [Root.isG] at hg
    | l i => simp [V.dead, boxN] at hr
  · intro B l hB
    rcases enterL_back hB with ⟨_, h⟩ | ⟨_, _, _, _, h, _⟩ | ⟨_, _, _, _, _, _, _, _, h, _⟩ <;> exact R.dom B _ h
  · intro B B' pl o o' h1 h2
    rcases enterL_back h1 with ⟨h, _⟩ | ⟨_, _, _, h, _⟩ | ⟨r, c, j, p, o1, i, x, h, k1, k2, _⟩
    · cases h
    · cases h
    rcases enterL_back h2 with ⟨h', _⟩ | ⟨_, _, _, h', _⟩ | ⟨r', c', j', p', o1', i', x', h', k1', k2', _⟩
    · cases h'
    · cases h'
    simp only [Lab.row.injEq] at h h'
    obtain ⟨rfl, rfl⟩ := h
    obtain ⟨h', rfl⟩ := h'
    simp only [Place.mk.injEq, Key.b.injEq, Root.e.injEq] at h'
    obtain ⟨⟨rfl, rfl⟩, rfl, rfl⟩ := h'
    have e1 := (rootIdx_inv rs k2).2
    have e2 := (rootIdx_inv rs k2').2
    rw [e1] at e2
    simp only [Option.some.injEq] at e2
    subst e2
    exact R.rowInj B B' _ _ _ k1 k1'
  · intro B B' r o o' h1 h2
    rcases enterL_back h1 with ⟨h, _⟩ | ⟨r1, o1, i, h, k1, k2⟩ | ⟨_, _, _, _, _, _, _, h, _⟩
    · cases h
    · rcases enterL_back h2 with ⟨h', _⟩ | ⟨r1', o1', i', h', k1', k2'⟩ | ⟨_, _, _, _, _, _, _, h', _⟩
      · cases h'
      · simp only [Lab.box.injEq] at h h'
        obtain ⟨rfl, rfl⟩ := h
        obtain ⟨h', rfl⟩ := h'
        simp only [Root.e.injEq] at h'
        subst h'
        have e1 := (rootIdx_inv rs k2).2
        have e2 := (rootIdx_inv rs k2').2
        rw [e1] at e2
        simp only [Option.some.injEq] at e2
        subst e2
        exact R.boxInj B B' _ _ _ k1 k1'
      · cases h'
    · cases h

end
end Go.Abs
