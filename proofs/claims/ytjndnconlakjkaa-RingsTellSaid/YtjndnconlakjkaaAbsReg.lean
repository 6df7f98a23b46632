/- Regions: orders. -/
import Derived.Test.YtjndnconlakjkaaAbsSound
import Derived.Orders
set_option linter.unusedVariables false
set_option linter.unusedSimpArgs false
namespace Go.Abs

/-- The same entries. -/
def St.same (S S' : St) : Prop := ∀ k, S.get k = S'.get k
theorem St.same.refl (S : St) : S.same S := fun _ => rfl
theorem St.same.symm {S S' : St} (h : S.same S') : S'.same S := fun k => (h k).symm
theorem St.same.trans {S S' S'' : St} (h : S.same S') (k : S'.same S'') : S.same S'' := fun x => (h x).trans (k x)
theorem St.same.wr {S S' : St} (h : S.same S') (x : Wr) : (S.wr x).same (S'.wr x) := by
  intro k
  rw [St.get_wr, St.get_wr, h x.k, h k]
theorem St.same.wrs {S S' : St} (h : S.same S') : ∀ ws : List Wr, (S.wrs ws).same (S'.wrs ws)
  | [] => h
  | x :: t => (St.same.wrs h t).wr x

theorem Q.run_same {α : Type} {S S' : St} (h : S.same S') (x : Q α) : x.run S' = x.run S ∧ x.reads S' = x.reads S := Q.run_congr x (fun k _ => (h k).symm)

theorem wrs_get_ne (S : St) : ∀ (ws : List Wr) (k : Key), (∀ x ∈ ws, x.k ≠ k) → (S.wrs ws).get k = S.get k
  | [], _, _ => rfl
  | x :: t, k, h => by
    simp only [St.wrs, St.get_wr]
    rw [if_neg (h x (by simp))]
    exact wrs_get_ne S t k (fun y hy => h y (by simp [hy]))

/-- What writes leave at a key hangs on what was there alone. -/
theorem wrs_get_congr (ws : List Wr) {S S' : St} {k : Key} (h : S.get k = S'.get k) : (S.wrs ws).get k = (S'.wrs ws).get k := by
  induction ws with
  | nil => exact h
  | cons x t ih =>
    simp only [St.wrs, St.get_wr]
    by_cases hk : x.k = k
    · subst hk; rw [if_pos rfl, if_pos rfl, ih]
    · rw [if_neg hk, if_neg hk]; exact ih

theorem wrs_comm (S : St) (u v : List Wr) (h : ∀ x ∈ u, ∀ y ∈ v, x.k ≠ y.k) : ((S.wrs u).wrs v).same ((S.wrs v).wrs u) := by
  intro k
  by_cases hu : ∃ x ∈ u, x.k = k
  · obtain ⟨x, hx, rfl⟩ := hu
    rw [wrs_get_ne _ v x.k (fun y hy e => h x hx y hy e.symm)]
    exact wrs_get_congr u (wrs_get_ne S v x.k (fun y hy e => h x hx y hy e.symm)).symm
  · have hu' : ∀ x ∈ u, x.k ≠ k := fun x hx e => hu ⟨x, hx, e⟩
    rw [wrs_get_ne (S.wrs v) u k hu']
    exact wrs_get_congr v (wrs_get_ne S u k hu')

theorem Foot.apart_inv {x y : Foot} (h : x.apart y = true) : (∀ k ∈ x.w, k ∉ y.r ∧ k ∉ y.w) ∧ ∀ k ∈ y.w, k ∉ x.r := by
  unfold Foot.apart at h
  simp only [Bool.and_eq_true, List.all_eq_true, Bool.not_eq_true', List.contains_eq_mem, decide_eq_false_iff_not] at h
  exact h

theorem evOpsF_same (Cl : Oracle) : ∀ (l : List IOper) {S S' Sf : St} {F : List Foot}, S.same S' → evOpsF Cl l S = some (Sf, F) → ∃ Sf', evOpsF Cl l S' = some (Sf', F) ∧ Sf.same Sf'
  | [], S, S', Sf, F, h, he => by
    simp only [evOpsF, Option.some.injEq, Prod.mk.injEq] at he
    obtain ⟨rfl, rfl⟩ := he
    exact ⟨S', rfl, h⟩
  | o :: t, S, S', Sf, F, h, he => by
    simp only [evOpsF] at he ⊢
    obtain ⟨h1, h2⟩ := Q.run_same h (evOper Cl o)
    rw [h1, h2]
    cases hw : (evOper Cl o).run S with
    | none => simp [hw] at he
    | some ws =>
      simp only [hw, Option.bind_some] at he ⊢
      obtain ⟨⟨S1, F1⟩, h3, h4⟩ := map_some' he
      simp only [Prod.mk.injEq] at h4
      obtain ⟨rfl, rfl⟩ := h4
      obtain ⟨S2, h5, h6⟩ := evOpsF_same Cl t (h.wrs ws) h3
      exact ⟨S2, by rw [h5]; rfl, h6⟩

/-- An operation that is apart from those ahead of it may run first. -/
theorem bring_front (Cl : Oracle) (o : IOper) (f : Foot) (l2 : List IOper) (F2 : List Foot) : ∀ (l1 : List IOper) {S Sf : St} {F1 : List Foot}, F1.length = l1.length → evOpsF Cl (l1 ++ o :: l2) S = some (Sf, F1 ++ f :: F2) → (∀ g ∈ F1, g.apart f = true) →
    ∃ ws, (evOper Cl o).run S = some ws ∧ f = ⟨(evOper Cl o).reads S, ws.map (·.k)⟩ ∧ ∃ Sf', evOpsF Cl (l1 ++ l2) (S.wrs ws) = some (Sf', F1 ++ F2) ∧ Sf.same Sf'
  | [], S, Sf, F1, hl, he, ha => by
    have : F1 = [] := List.length_eq_zero_iff.1 hl
    subst this
    simp only [List.nil_append, evOpsF] at he ⊢
    cases hw : (evOper Cl o).run S with
    | none => simp [hw] at he
    | some ws =>
      simp only [hw, Option.bind_some] at he
      obtain ⟨⟨S1, F1⟩, h3, h4⟩ := map_some' he
      simp only [Prod.mk.injEq, List.cons.injEq] at h4
      obtain ⟨rfl, rfl, rfl⟩ := h4
      exact ⟨ws, rfl, rfl, Sf, h3, St.same.refl _⟩
  | x :: t, S, Sf, F1, hl, he, ha => by
    cases F1 with
    | nil => simp at hl
    | cons g F1 =>
      simp only [List.cons_append, evOpsF] at he
      cases hw : (evOper Cl x).run S with
      | none => simp [hw] at he
      | some wx =>
        simp only [hw, Option.bind_some] at he
        obtain ⟨⟨S1, F'⟩, h3, h4⟩ := map_some' he
        simp only [Prod.mk.injEq, List.cons.injEq] at h4
        obtain ⟨rfl, rfl, rfl⟩ := h4
        obtain ⟨ws, h5, h6, Sf', h7, h8⟩ := bring_front Cl o f l2 F2 t (by simpa using hl) h3 (fun g hg => ha g (by simp [hg]))
        obtain ⟨a1, a2⟩ := Foot.apart_inv (ha ⟨(evOper Cl x).reads S, wx.map (·.k)⟩ (by simp))
        -- o runs the same ahead of x
        have hro : (evOper Cl o).run S = some ws ∧ (evOper Cl o).reads S = (evOper Cl o).reads (S.wrs wx) := by
          have := Q.run_congr (S := S.wrs wx) (S' := S) (evOper Cl o) (fun k hk => by
            refine (wrs_get_ne S wx k ?_).symm
            rintro y hy rfl
            have := (a1 y.k (List.mem_map.2 ⟨y, hy, rfl⟩)).1
            rw [h6] at this
            exact this hk)
          exact ⟨this.1.trans h5, this.2⟩
        have hrx : (evOper Cl x).run (S.wrs ws) = some wx ∧ (evOper Cl x).reads (S.wrs ws) = (evOper Cl x).reads S := by
          have := Q.run_congr (S := S) (S' := S.wrs ws) (evOper Cl x) (fun k hk => by
            refine wrs_get_ne S ws k ?_
            rintro y hy rfl
            exact a2 y.k (by rw [h6]; exact List.mem_map.2 ⟨y, hy, rfl⟩) hk)
          exact ⟨this.1.trans hw, this.2⟩
        have hdis : ∀ y ∈ wx, ∀ z ∈ ws, y.k ≠ z.k := by
          intro y hy z hz e
          have := (a1 y.k (List.mem_map.2 ⟨y, hy, rfl⟩)).2
          rw [h6, e] at this
          exact this (List.mem_map.2 ⟨z, hz, rfl⟩)
        obtain ⟨Sf'', h9, h10⟩ := evOpsF_same Cl (t ++ l2) (wrs_comm S wx ws hdis) h7
        refine ⟨ws, hro.1, by rw [h6, hro.2], Sf'', ?_, h8.trans h10⟩
        simp only [List.cons_append, evOpsF, hrx.1, hrx.2, Option.bind_some, h9, Option.map_some]

/-- Bits of what stands before. -/
theorem before_bits (ops : Array Oper) : (Region.before ops).size = ops.size ∧ ∀ i j, ((Region.before ops).getD i 0).testBit j = true → ∃ o e, ops[i]? = some o ∧ e ∈ o.after ∧ Region.binds .any e = true ∧ (e.on = j ∨ (e.on < i ∧ ((Region.before ops).getD e.on 0).testBit j = true)) := by
  have inner : ∀ (acc : Array Nat) (l : List Edge) (s j : Nat), (l.foldl (fun s e => if Region.binds .any e then s ||| 2 ^ e.on ||| acc.getD e.on 0 else s) s).testBit j = true →
      s.testBit j = true ∨ ∃ e ∈ l, Region.binds .any e = true ∧ (e.on = j ∨ (acc.getD e.on 0).testBit j = true) := by
    intro acc l
    induction l with
    | nil => intro s j h; exact .inl h
    | cons e l ih =>
      intro s j h
      simp only [List.foldl_cons] at h
      rcases ih _ _ h with h | ⟨e', h1, h2, h3⟩
      · split at h
        · rename_i hb
          rw [Nat.testBit_or, Nat.testBit_or, Bool.or_eq_true, Bool.or_eq_true] at h
          rcases h with (h | h) | h
          · exact .inl h
          · rw [Nat.testBit_two_pow] at h
            exact .inr ⟨e, by simp, hb, .inl (by simpa using h)⟩
          · exact .inr ⟨e, by simp, hb, .inr h⟩
        · exact .inl h
      · exact .inr ⟨e', by simp [h1], h2, h3⟩
  have main : ∀ (n : Nat), n ≤ ops.size → ∀ (acc : Array Nat), acc = (ops.toList.take n).foldl (fun acc o => acc.push (o.after.foldl (fun s e => if Region.binds .any e then s ||| 2 ^ e.on ||| acc.getD e.on 0 else s) 0)) #[] →
      acc.size = n ∧ ∀ i j, (acc.getD i 0).testBit j = true → ∃ o e, ops[i]? = some o ∧ e ∈ o.after ∧ Region.binds .any e = true ∧ (e.on = j ∨ (e.on < i ∧ (acc.getD e.on 0).testBit j = true)) := by
    intro n
    induction n with
    | zero =>
      intro _ acc h
      subst h
      exact ⟨rfl, fun i j h => by simp at h⟩
    | succ n ih =>
      intro hn acc h
      rw [List.take_succ_eq_append_getElem (by rw [Array.length_toList]; omega), List.foldl_append] at h
      obtain ⟨acc0, hacc0⟩ : ∃ x, x = (ops.toList.take n).foldl (fun acc o => acc.push (o.after.foldl (fun s e => if Region.binds .any e then s ||| 2 ^ e.on ||| acc.getD e.on 0 else s) 0)) #[] := ⟨_, rfl⟩
      obtain ⟨g1, g2⟩ := ih (by omega) acc0 hacc0
      rw [← hacc0] at h
      clear hacc0 ih
      simp only [List.foldl_cons, List.foldl_nil] at h
      have hpre : ∀ k, k < n → acc.getD k 0 = acc0.getD k 0 := by
        intro k hk
        subst h
        simp only [Array.getD_eq_getD_getElem?]
        rw [Array.getElem?_push, if_neg (by omega)]
      refine ⟨by rw [h]; simp [g1], fun i j hb => ?_⟩
      by_cases hi : i < n
      · rw [hpre i hi] at hb
        obtain ⟨o, e, k1, k2, k3, k4⟩ := g2 i j hb
        refine ⟨o, e, k1, k2, k3, k4.imp id (fun ⟨k5, k6⟩ => ⟨k5, by rw [hpre _ (by omega)]; exact k6⟩)⟩
      · by_cases hin : i = n
        · subst hin
          have hv : acc.getD i 0 = (ops[i]'(by omega)).after.foldl (fun s e => if Region.binds .any e then s ||| 2 ^ e.on ||| acc0.getD e.on 0 else s) 0 := by
            rw [h]
            simp only [Array.getD_eq_getD_getElem?]
            rw [Array.getElem?_push, if_pos (by omega)]
            simp
          rw [hv, ← Array.foldl_toList] at hb
          rcases inner acc0 _ 0 j hb with h0 | ⟨e, k1, k2, k3⟩
          · simp at h0
          · refine ⟨ops[i], e, by simp, by simpa using k1, k2, ?_⟩
            rcases k3 with k3 | k3
            · exact .inl k3
            · have hon : e.on < i := by
                rcases Nat.lt_or_ge e.on i with h | h
                · exact h
                · rw [Array.getD_eq_getD_getElem?, Array.getElem?_eq_none (by omega)] at k3
                  simp at k3
              exact .inr ⟨hon, by rw [hpre _ hon]; exact k3⟩
        · rw [Array.getD_eq_getD_getElem?, Array.getElem?_eq_none (by rw [h]; simp [g1]; omega)] at hb
          simp at hb
  have := main ops.size (Nat.le_refl _) (Region.before ops) (by
    unfold Region.before
    rw [List.take_of_length_le (by rw [Array.length_toList]; exact Nat.le_refl _), Array.foldl_toList])
  exact this

/-- What is listed holds, of each, all that binds it. -/
def Closed (ops : Array Oper) (listed : Array Bool) : Prop := ∀ (i : Nat) o, ops[i]? = some o → listed.getD i true = true → ∀ e ∈ o.after, Region.binds .any e = true → listed.getD e.on false = true

theorem before_listed (ops : Array Oper) (listed : Array Bool) (hs : listed.size = ops.size) (hc : Closed ops listed) : ∀ (n i : Nat), i < n → ∀ o, ops[i]? = some o → (∀ e ∈ o.after, Region.binds .any e = true → listed.getD e.on false = true) →
    ∀ j, ((Region.before ops).getD i 0).testBit j = true → listed.getD j false = true
  | 0, i, hi, _, _, _, _, _ => by omega
  | n + 1, i, hi, o, ho, hr, j, hb => by
    obtain ⟨o', e, h1, h2, h3, h4⟩ := (before_bits ops).2 i j hb
    rw [ho] at h1
    cases h1
    have hl := hr e h2 h3
    rcases h4 with rfl | ⟨h4, h5⟩
    · exact hl
    · have hlt : e.on < ops.size := by
        rcases Nat.lt_or_ge e.on ops.size with h | h
        · exact h
        · rw [Array.getD_eq_getD_getElem?, Array.getElem?_eq_none (by omega)] at hl
          cases hl
      refine before_listed ops listed hs hc n e.on (by omega) ops[e.on] (by simp [hlt]) (hc e.on _ (by simp [hlt]) ?_) j h5
      rw [Array.getD_eq_getD_getElem?] at hl ⊢
      cases hx : listed[e.on]? with
      | none => rfl
      | some b => simpa [hx] using hl
end Go.Abs
