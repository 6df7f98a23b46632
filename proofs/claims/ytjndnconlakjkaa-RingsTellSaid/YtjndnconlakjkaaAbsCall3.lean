/- Calls: the callee's state; what comes back. -/
import Derived.Test.YtjndnconlakjkaaAbsCall2
set_option linter.unusedVariables false
set_option linter.unusedSimpArgs false
namespace Go.Abs
section
variable {nm : FuncId → Option Nat} {N : Nat} {S S0 : St} {a : Act} {w w0 w' : World} {L L0 : LabF} {P : Program} {o : Oper} {Cl : Oracle} {d : Nat} {ws : List Wr} {γ : Key → Nat} {rs : List Root} {E : Key → V}

theorem getD_some {α : Type} {l : List α} {i : Nat} {d : α} (h : i < l.length) : l[i]? = some (l.getD i d) := by
  rw [List.getElem?_eq_getElem h, List.getD_eq_getElem?_getD, List.getElem?_eq_getElem h]; rfl

theorem inVs_get : ∀ {l l' : List V} (j : Nat) {c' : V}, inVs rs l = some l' → l'[j]? = some c' → ∃ c, l[j]? = some c ∧ c.inV rs = some c'
  | [], l', j, c', h, hj => by simp only [inVs, Option.some.injEq] at h; subst h; simp at hj
  | c :: t, l', j, c', h, hj => by
    simp only [inVs] at h
    obtain ⟨c1, h1, h2⟩ := Option.bind_eq_some_iff.1 h
    obtain ⟨t1, h3, rfl⟩ := map_some' h2
    cases j with
    | zero => simp at hj; subst hj; exact ⟨c, rfl, h1⟩
    | succ j => obtain ⟨c2, g1, g2⟩ := inVs_get j h3 (by simpa using hj); exact ⟨c2, by simpa using g1, g2⟩
theorem inVs_length : ∀ {l l' : List V}, inVs rs l = some l' → l'.length = l.length
  | [], l', h => by simp only [inVs, Option.some.injEq] at h; subst h; rfl
  | c :: t, l', h => by
    simp only [inVs] at h
    obtain ⟨c1, h1, h2⟩ := Option.bind_eq_some_iff.1 h
    obtain ⟨t1, h3, rfl⟩ := map_some' h2
    simp [inVs_length h3]
theorem inBs_get : ∀ {l l' : List (List C)} (j : Nat) {c' : List C}, inBs rs l = some l' → l'[j]? = some c' → ∃ c, l[j]? = some c ∧ inL rs c = some c'
  | [], l', j, c', h, hj => by simp only [inBs, Option.some.injEq] at h; subst h; simp at hj
  | c :: t, l', j, c', h, hj => by
    simp only [inBs] at h
    obtain ⟨c1, h1, h2⟩ := Option.bind_eq_some_iff.1 h
    obtain ⟨t1, h3, rfl⟩ := map_some' h2
    cases j with
    | zero => simp at hj; subst hj; exact ⟨c, rfl, h1⟩
    | succ j => obtain ⟨c2, g1, g2⟩ := inBs_get j h3 (by simpa using hj); exact ⟨c2, by simpa using g1, g2⟩
theorem inBs_length : ∀ {l l' : List (List C)}, inBs rs l = some l' → l'.length = l.length
  | [], l', h => by simp only [inBs, Option.some.injEq] at h; subst h; rfl
  | c :: t, l', h => by
    simp only [inBs] at h
    obtain ⟨c1, h1, h2⟩ := Option.bind_eq_some_iff.1 h
    obtain ⟨t1, h3, rfl⟩ := map_some' h2
    simp [inBs_length h3]

theorem vPtrs_mem : ∀ {l : List V} {j : Nat} {v : V} {x : Root × Nat}, l[j]? = some v → x ∈ ptrsL v.cells → x ∈ vPtrs l
  | [], _, _, _, h, _ => by simp at h
  | y :: t, 0, c, x, h, hx => by simp at h; subst h; simp [vPtrs, hx]
  | y :: t, j + 1, c, x, h, hx => by simp only [vPtrs, List.mem_append]; exact .inr (vPtrs_mem (by simpa using h) hx)

theorem RepV.enter {k : Key} {x : V} {v : Value} (h : RepV nm w L γ k x v) {x' : V} (hi : x.inV rs = some x') (hl : ∀ y ∈ ptrsL x.cells, y.2 = γ (.r y.1)) (hc : x.clean = true) (k' : Key) : RepV nm w (enterL rs E L) (fun _ => 0) k' x' v := by
  cases h with
  | @one c v h =>
    simp only [V.inV] at hi
    obtain ⟨c', h1, rfl⟩ := map_some' hi
    exact .one (h.enter h1 (fun y hy => hl y (by simp [V.cells, ptrsL, hy])) hc _ _)
  | @agg cs vs hlen h =>
    simp only [V.inV] at hi
    obtain ⟨cs', h1, rfl⟩ := map_some' hi
    refine .agg (by rw [inL_length h1]; exact hlen) (fun j c u hj hu => ?_)
    obtain ⟨c0, g1, g2⟩ := inL_get j h1 hj
    exact (h j c0 u g1 hu).enter g2 (fun y hy => hl y (ptrsL_mem g1 hy)) (cleanL_get hc g1) _ _
  | tup => simp [V.inV] at hi

theorem entry_γ (vs : List V) (bs : List (List C)) : (argEnts 0 vs ++ boxesEnts 0 bs : St).γ = fun _ => 0 := by
  funext k
  unfold St.γ
  rw [argEnts_get]
  cases k with
  | s j => simp only; split; rfl; rw [boxesEnts_get]
  | r x => simp only; rw [boxesEnts_get]; cases x <;> simp only <;> (try split) <;> rfl
  | b x c => simp only; rw [boxesEnts_get]; cases x <;> simp only <;> (try split) <;> rfl
  | h i => simp only; rw [boxesEnts_get]
  | a k => simp only; rw [boxesEnts_get]

theorem boxes_γ (bs : List (List C)) : (boxesEnts 0 bs : St).γ = fun _ => 0 := by
  have := entry_γ [] bs
  simpa [argEnts] using this

theorem boxes_E (bs : List (List C)) (k : Key) : (boxesEnts 0 bs : St).E k = match k with
    | .r (.e j) => if j < bs.length then sizeV (bs.getD j []).length else V.dead
    | .b (.e j) c => if j < bs.length ∧ c < (bs.getD j []).length then .one ((bs.getD j []).getD c .dead) else V.dead
    | _ => V.dead := by
  unfold St.E
  rw [boxesEnts_get]
  cases k with
  | r x => cases x <;> simp only <;> (try (simp only [Nat.zero_le, true_and, Nat.zero_add, Nat.sub_zero]; split <;> rfl)) <;> rfl
  | b x c => cases x <;> simp only <;> (try (simp only [Nat.zero_le, true_and, Nat.zero_add, Nat.sub_zero]; split <;> rfl)) <;> rfl
  | _ => rfl

/-- The callee's state stands in the relation. -/
theorem enter_rel (M : Mid nm N S0 w0 L0 ws a w L) {vs vs' : List V} {bs bs' : List (List C)} (hlv : ∀ x ∈ vPtrs vs, LiveP S0 ws x) (hg : (gather ws 40 (addPtrs [] (vPtrs vs)) 0).run S0 = some (rs, bs)) (hvs : inVs rs vs = some vs') (hbs : inBs rs bs = some bs')
    {args : Array Value} (hsz : args.size = vs.length) (hcl : cleanVs vs = true) (hrep : ∀ (j : Nat) x u, vs[j]? = some x → args[j]? = some u → RepV nm w L (S0.wrs ws).γ (.h 0) x u) :
    Rel nm vs'.length (argEnts 0 vs' ++ boxesEnts 0 bs') ⟨args, []⟩ w (enterL rs (S0.wrs ws).E L) ∧ NoH (enterL rs (S0.wrs ws).E L) ∧ rs.Nodup ∧ (∀ r ∈ rs, LiveR S0 ws r) ∧ bs.length = rs.length ∧ bs'.length = rs.length ∧
      (∀ (k : Nat) r cs, rs[k]? = some r → bs[k]? = some cs → cs.length = boxN (S0.E (.r r)) ∧ (∀ j x, cs[j]? = some x → (S0.wrs ws).E (.b r j) = .one x)) := by
  obtain ⟨a1, ⟨t1, a2⟩, a3⟩ := addPtrs_inv (vPtrs vs) [] List.nodup_nil
  obtain ⟨b1, ⟨t2, b2⟩, b3, b4, b5⟩ := gather_inv 40 _ 0 a1 hg
  have hlive : ∀ r ∈ rs, LiveR S0 ws r := by
    intro r hr
    rcases b3 r hr with h | h
    · rcases a3 r h with h | ⟨g, h⟩
      · simp at h
      · exact (hlv _ h).2
    · exact h
  have hbl : bs.length = rs.length := by rw [b4]; omega
  have hbl' : bs'.length = rs.length := by rw [inBs_length hbs, hbl]
  have hb5 : ∀ (k : Nat) r cs, rs[k]? = some r → bs[k]? = some cs → cs.length = boxN (S0.E (.r r)) ∧ (∀ j x, cs[j]? = some x → (S0.wrs ws).E (.b r j) = .one x) ∧ ∀ x ∈ ptrsL cs, LiveP S0 ws x :=
    fun k r cs h1 h2 => b5 k r cs (by rw [Nat.zero_add]; exact h1) h2
  have hγ : ∀ {x : Root × Nat}, LiveP S0 ws x → x.2 = (S0.wrs ws).γ (.r x.1) := fun h => by rw [γ_wrs_none h.2.1]; exact h.1
  -- one box
  have box : ∀ j, j < bs'.length → ∃ r cs, rs[j]? = some r ∧ bs[j]? = some cs ∧ inL rs cs = some (bs'.getD j []) ∧ (bs'.getD j []).length = boxN ((S0.wrs ws).E (.r r)) ∧ r.isG = false ∧ rootIdx rs r 0 = some j ∧
      (∀ i x, cs[i]? = some x → (S0.wrs ws).E (.b r i) = .one x) ∧ ∀ x ∈ ptrsL cs, LiveP S0 ws x := by
    intro j hj
    have hget : bs'[j]? = some (bs'.getD j []) := by simp [List.getD_eq_getElem?_getD, hj]
    obtain ⟨cs, h1, h2⟩ := inBs_get j hbs hget
    have hjr : j < rs.length := by omega
    obtain ⟨c1, c2, c3⟩ := hb5 j rs[j] cs (by simp) h1
    have hl := hlive rs[j] (List.getElem_mem hjr)
    refine ⟨rs[j], cs, by simp, h1, h2, ?_, hl.2, ?_, c2, c3⟩
    · rw [inL_length h2, c1, getWr_E, hl.1]; rfl
    · have := rootIdx_of rs (i := 0) b1 (show rs[j]? = some rs[j] by simp)
      rwa [Nat.zero_add] at this
  refine ⟨⟨?_, rfl, ?_, ?_, ?_, ?_, ?_, ?_, ?_, ?_⟩, ?_, b1, hlive, hbl, hbl', fun k r cs h1 h2 => ⟨(hb5 k r cs h1 h2).1, (hb5 k r cs h1 h2).2.1⟩⟩
  · rw [hsz, inVs_length hvs]
  · intro i
    rw [entry_γ]
    show RepV nm w _ _ (.s i) ((argEnts 0 vs' ++ boxesEnts 0 bs' : St).E (.s i)) (args.getD i undef)
    have hE : (argEnts 0 vs' ++ boxesEnts 0 bs' : St).E (.s i) = if i < vs'.length then vs'.getD i V.dead else V.dead := by
      unfold St.E
      rw [argEnts_get]
      simp only [Nat.zero_le, true_and, Nat.zero_add, Nat.sub_zero]
      split
      · rfl
      · rw [boxesEnts_get]; rfl
    rw [hE]
    split
    · rename_i hi
      obtain ⟨x, h1, h2⟩ := inVs_get i hvs (show vs'[i]? = some (vs'.getD i V.dead) by simp [List.getD_eq_getElem?_getD, hi])
      have hia : i < args.size := by rw [hsz, ← inVs_length hvs]; exact hi
      have := (hrep i x args[i] h1 (by simp [hia])).enter (E := (S0.wrs ws).E) h2 (fun y hy => hγ (hlv y (vPtrs_mem h1 hy))) (cleanVs_get hcl h1) (.s i)
      simpa [Array.getD, hia] using this
    · exact .one .dead
  · intro r c x hx hxd
    have hx' : (boxesEnts 0 bs' : St).E (.b r c) = .one x := by
      have := hx
      unfold St.E at this ⊢
      rw [argEnts_get] at this
      exact this
    rw [entry_γ]
    rw [boxes_E] at hx'
    cases r with
    | g i => simp only [V.dead, V.one.injEq] at hx'; exact absurd hx'.symm hxd
    | l i => simp only [V.dead, V.one.injEq] at hx'; exact absurd hx'.symm hxd
    | e j =>
      simp only at hx'
      split at hx'
      · rename_i hjc
        obtain ⟨r0, cs, h1, h2, h3, h4, h5, h6, h7, h8⟩ := box j hjc.1
        simp only [V.one.injEq] at hx'
        obtain ⟨y, k1, k2⟩ := inL_get c h3 (show (bs'.getD j [])[c]? = some x by rw [← hx']; exact getD_some hjc.2)
        have hyE := h7 c y k1
        have hyd : y ≠ .dead := by
          rintro rfl
          simp only [C.inC, Option.some.injEq] at k2
          exact hxd k2.symm
        have hat := M.rel.cell r0 c y hyE hyd
        have ex : ∃ B o cur e fz v, L B = some (.box r0 o) ∧ w.heap[B]? = some (.cells cur e fz) ∧ unfroz cur.size fz ∧ cur[o + c]? = some v ∧ RepC nm w L (S0.wrs ws).γ (.b r0 c) 0 y v := by
          cases r0 with
          | g i => simp [Root.isG] at h5
          | e i => exact hat
          | l i => exact hat
        obtain ⟨B, o, cur, e, fz, v, m1, m2, m3, m4, m5⟩ := ex
        exact ⟨B, o, cur, e, fz, v, enterL_box m1 h6, m2, m3, m4, m5.enterBox k2 (fun z hz => hγ (h8 z (ptrsL_mem k1 hz))) hyE h6⟩
      · simp only [V.dead, V.one.injEq] at hx'; exact absurd hx'.symm hxd
  · intro r c
    have : (argEnts 0 vs' ++ boxesEnts 0 bs' : St).E (.b r c) = (boxesEnts 0 bs' : St).E (.b r c) := by unfold St.E; rw [argEnts_get]
    rw [this, boxes_E]
    cases r with
    | e j =>
      simp only
      split
      · exact ⟨(bs'.getD j []).getD c .dead, rfl⟩
      · exact ⟨.dead, rfl⟩
    | g i => exact ⟨.dead, rfl⟩
    | l i => exact ⟨.dead, rfl⟩
  · intro r c hc
    have h1 : (argEnts 0 vs' ++ boxesEnts 0 bs' : St).E (.b r c) = (boxesEnts 0 bs' : St).E (.b r c) := by unfold St.E; rw [argEnts_get]
    have h2 : (argEnts 0 vs' ++ boxesEnts 0 bs' : St).E (.r r) = (boxesEnts 0 bs' : St).E (.r r) := by unfold St.E; rw [argEnts_get]
    rw [h2] at hc
    rw [h1]
    rw [boxes_E] at hc ⊢
    cases r with
    | e j =>
      simp only at hc ⊢
      by_cases hj : j < bs'.length
      · rw [if_pos hj, boxN_sizeV] at hc
        rw [if_neg (fun h => by omega)]; rfl
      · rw [if_neg (fun h => hj h.1)]; rfl
    | g i => rfl
    | l i => rfl
  · intro r hg hr
    have h2 : (argEnts 0 vs' ++ boxesEnts 0 bs' : St).E (.r r) = (boxesEnts 0 bs' : St).E (.r r) := by unfold St.E; rw [argEnts_get]
    rw [h2] at hr ⊢
    rw [boxes_E] at hr ⊢
    cases r with
    | e j =>
      simp only at hr ⊢
      by_cases hj : j < bs'.length
      · rw [if_pos hj, boxN_sizeV] at hr ⊢
        obtain ⟨r0, cs, h1, h2, h3, h4, h5, h6, h7, h8⟩ := box j hj
        rw [h4] at hr ⊢
        obtain ⟨B, o, cur, e, fz, m1, m2, m3, m4⟩ := M.rel.room r0 h5 hr
        exact ⟨B, o, cur, e, fz, enterL_box m1 h6, m2, m3, m4⟩
      · rw [if_neg hj] at hr; simp [V.dead, boxN] at hr
    | g i => simp [Root.isG] at hg
    | l i => simp [V.dead, boxN] at hr
  · intro B l hB
    rcases enterL_back hB with ⟨_, h⟩ | ⟨_, _, _, _, h, _⟩ | ⟨_, _, _, _, _, _, _, _, h, _⟩ <;> exact M.rel.dom B _ h
  · intro B B' pl o o' h1 h2
    rcases enterL_back h1 with ⟨h, _⟩ | ⟨_, _, _, h, _⟩ | ⟨r, c, j, p, o1, i, x, h, k1, k2, _⟩
    · cases h
    · cases h
    rcases enterL_back h2 with ⟨h', _⟩ | ⟨_, _, _, h', _⟩ | ⟨r', c', j', p', o1', i', x', h', k1', k2', _⟩
    · cases h'
    · cases h'
    simp only [Lab.row.injEq] at h h'
    obtain ⟨rfl, rfl⟩ := h
    obtain ⟨h', rfl⟩ := h'
    simp only [Place.mk.injEq, Key.b.injEq, Root.e.injEq] at h'
    obtain ⟨⟨rfl, rfl⟩, rfl, rfl⟩ := h'
    have e1 := (rootIdx_inv rs k2).2
    have e2 := (rootIdx_inv rs k2').2
    rw [e1] at e2
    simp only [Option.some.injEq] at e2
    subst e2
    exact M.rel.rowInj B B' _ _ _ k1 k1'
  · intro B B' r o o' h1 h2
    rcases enterL_back h1 with ⟨h, _⟩ | ⟨r1, o1, i, h, k1, k2⟩ | ⟨_, _, _, _, _, _, _, h, _⟩
    · cases h
    · rcases enterL_back h2 with ⟨h', _⟩ | ⟨r1', o1', i', h', k1', k2'⟩ | ⟨_, _, _, _, _, _, _, h', _⟩
      · cases h'
      · simp only [Lab.box.injEq] at h h'
        obtain ⟨rfl, rfl⟩ := h
        obtain ⟨h', rfl⟩ := h'
        simp only [Root.e.injEq] at h'
        subst h'
        have e1 := (rootIdx_inv rs k2).2
        have e2 := (rootIdx_inv rs k2').2
        rw [e1] at e2
        simp only [Option.some.injEq] at e2
        subst e2
        exact M.rel.boxInj B B' _ _ _ k1 k1'
      · cases h'
    · cases h
  · intro B q o hB
    rcases enterL_back hB with ⟨h, _⟩ | ⟨_, _, _, h, _⟩ | ⟨_, _, _, _, _, _, _, h, _⟩
    · cases h
    · cases h
    · simp only [Lab.row.injEq] at h
      rw [h.1]; rfl
end
end Go.Abs
