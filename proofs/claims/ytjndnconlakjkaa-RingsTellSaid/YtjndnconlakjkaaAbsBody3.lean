/- What a function's body comes to: results and boxes, seen from outside. -/
import Derived.Test.YtjndnconlakjkaaAbsBody2
set_option linter.unusedVariables false
set_option linter.unusedSimpArgs false
namespace Go.Abs

/-- The labels as the caller's: of what is under way the result's. -/
def leaveLb (rs : List Root) (E : Key → V) (L : LabF) : LabF := fun B =>
  match L B with
  | some (.row ⟨.h 0, j, p⟩ o) => some (.row ⟨.h 0, j, p⟩ o)
  | _ => enterL rs E L B

section
variable {nm : FuncId → Option Nat} {N : Nat} {S S0 : St} {a : Act} {w : World} {L L0 L' : LabF} {P : Program} {ws : List Wr} {γ : Key → Nat} {rs : List Root} {E : Key → V}

theorem leaveLb_ext {B : Nat} {l : Lab} (h : enterL rs E L B = some l) : leaveLb rs E L B = some l := by
  unfold leaveLb
  split
  · rename_i j p o hL
    simp [enterL, hL] at h
  · exact h
theorem leaveLb_h {B j o : Nat} {p : List (Nat × Nat)} (h : L B = some (.row ⟨.h 0, j, p⟩ o)) : leaveLb rs E L B = some (.row ⟨.h 0, j, p⟩ o) := by
  unfold leaveLb; simp [h]
theorem leaveLb_back {B : Nat} {l : Lab} (h : leaveLb rs E L B = some l) : enterL rs E L B = some l ∨ ∃ j p o, l = .row ⟨.h 0, j, p⟩ o ∧ L B = some l := by
  unfold leaveLb at h
  split at h
  · rename_i j p o hL
    simp only [Option.some.injEq] at h
    subst h
    exact .inr ⟨j, p, o, rfl, hL⟩
  · exact .inl h

theorem leaveLb_stp : Step w w (enterL rs E L) (leaveLb rs E L) (fun _ => 0) (fun _ => 0) :=
  ⟨fun B hB => ⟨leaveLb_ext hB, rfl⟩, fun _ => Nat.le_refl _, fun B q o _ _ hB => ⟨leaveLb_ext hB, fun cur e fz h => ⟨cur, h, rfl⟩⟩, fun _ _ _ _ _ _ _ => rfl, fun B r o _ hB => leaveLb_ext hB⟩

theorem leave_rel (R : Rel nm 0 S ⟨#[], []⟩ w (enterL rs E L)) (hS : S.γ = fun _ => 0) (hinj : RowInj L) (hdom : Dom w L) : Rel nm 0 S ⟨#[], []⟩ w (leaveLb rs E L) := by
  have hst : Step w w (enterL rs E L) (leaveLb rs E L) S.γ S.γ := by rw [hS]; exact leaveLb_stp
  have noh : ∀ {B q o}, enterL rs E L B = some (.row q o) → q.k.isPl = true := by
    intro B q o hB
    rcases enterL_back hB with ⟨h, _⟩ | ⟨_, _, _, h, _⟩ | ⟨_, _, _, _, _, _, _, h, _⟩
    · cases h
    · cases h
    · simp only [Lab.row.injEq] at h; rw [h.1]; rfl
  refine ⟨R.size, R.defers, ?_, ?_, R.bone, R.bound, ?_, ?_, ?_, ?_⟩
  · intro i
    exact (R.slot i).step hst (fun B q o hq hB => by rw [← hq, Place.at_self]; exact ⟨leaveLb_ext hB, rfl⟩)
  · intro r c x hx hxd
    exact (R.cell r c x hx hxd).step hst (fun B q o _ hB => ⟨leaveLb_ext hB, rfl⟩) (fun B o hB => ⟨leaveLb_ext hB, fun cur e fz hc => ⟨cur, hc, rfl, rfl⟩⟩)
  · intro r hg hr
    obtain ⟨B, o, cur, e, fz, h1, h2, h3, h4⟩ := R.room r hg hr
    exact ⟨B, o, cur, e, fz, leaveLb_ext h1, h2, h3, h4⟩
  · intro B l hB
    rcases leaveLb_back hB with h | ⟨_, _, _, _, h⟩
    · exact R.dom B l h
    · exact hdom B l h
  · intro B B' pl o o' h1 h2
    rcases leaveLb_back h1 with g1 | ⟨j, p, o1, e1, g1⟩
    · rcases leaveLb_back h2 with g2 | ⟨j', p', o1', e2, g2⟩
      · exact R.rowInj B B' pl o o' g1 g2
      · have := noh g1
        simp only [Lab.row.injEq] at e2
        rw [e2.1] at this
        simp [Key.isPl] at this
    · rcases leaveLb_back h2 with g2 | ⟨j', p', o1', e2, g2⟩
      · have := noh g2
        simp only [Lab.row.injEq] at e1
        rw [e1.1] at this
        simp [Key.isPl] at this
      · exact hinj B B' pl o o' g1 g2
  · intro B B' r o o' h1 h2
    rcases leaveLb_back h1 with g1 | ⟨_, _, _, e1, _⟩
    · rcases leaveLb_back h2 with g2 | ⟨_, _, _, e2, _⟩
      · exact R.boxInj B B' r o o' g1 g2
      · cases e2
    · cases e1

theorem RepC.leaveH {j : Nat} {c : C} {v : Value} (h : RepC nm w L γ (.h 0) j c v) {c' : C} (hi : c.inC rs = some c') (hl : ∀ x ∈ c.ptrs, x.2 = γ (.r x.1)) : RepC nm w (leaveLb rs E L) (fun _ => 0) (.h 0) j c' v := by
  have cl : c.clean = true → RepC nm w (leaveLb rs E L) (fun _ => 0) (.h 0) j c' v := by
    intro hc
    refine (h.enter (rs := rs) (E := E) hi hl hc (.h 0) j).step leaveLb_stp (fun B q o h1 h2 hB => ?_)
    rw [← h1, ← h2, Place.at_self]
    exact ⟨leaveLb_ext hB, rfl⟩
  cases c with
  | d x =>
    simp only [C.inC, Option.some.injEq] at hi
    subst hi
    cases h with
    | d h =>
      refine .d (RepD.move id (fun q => q.k = .h 0) (fun _ _ _ h => h) (fun _ _ _ _ => rfl) (fun B hB => ⟨leaveLb_ext (enterL_imm hB), rfl⟩) (fun B q o hq hB => ⟨?_, rfl⟩) h rfl)
      obtain ⟨k, j, p⟩ := q
      simp only at hq
      subst hq
      exact leaveLb_h hB
  | appd => simp [C.inC] at hi
  | _ => exact cl (h.clean_of rfl)

theorem leaveVs_get : ∀ {l l' : List V} (j : Nat) {c' : V}, leaveVs rs l = some l' → l'[j]? = some c' → ∃ c, l[j]? = some c ∧ c.leave rs = some c'
  | [], l', j, c', h, hj => by simp only [leaveVs, Option.some.injEq] at h; subst h; simp at hj
  | c :: t, l', j, c', h, hj => by
    simp only [leaveVs] at h
    obtain ⟨c1, h1, h2⟩ := Option.bind_eq_some_iff.1 h
    obtain ⟨t1, h3, rfl⟩ := map_some' h2
    cases j with
    | zero => simp at hj; subst hj; exact ⟨c, rfl, h1⟩
    | succ j => obtain ⟨c2, g1, g2⟩ := leaveVs_get j h3 (by simpa using hj); exact ⟨c2, by simpa using g1, g2⟩
theorem leaveVs_length : ∀ {l l' : List V}, leaveVs rs l = some l' → l'.length = l.length
  | [], l', h => by simp only [leaveVs, Option.some.injEq] at h; subst h; rfl
  | c :: t, l', h => by
    simp only [leaveVs] at h
    obtain ⟨c1, h1, h2⟩ := Option.bind_eq_some_iff.1 h
    obtain ⟨t1, h3, rfl⟩ := map_some' h2
    simp [leaveVs_length h3]

mutual
theorem leave_clean : ∀ {c c' : V}, c.clean = true → c.leave rs = some c' → c'.clean = true
  | .one c, c', h, hi => by simp only [V.leave] at hi; obtain ⟨x, h1, rfl⟩ := map_some' hi; exact inC_clean (c := c) h h1
  | .agg cs, c', h, hi => by simp only [V.leave] at hi; obtain ⟨x, h1, rfl⟩ := map_some' hi; exact inL_clean (l := cs) h h1
  | .tup vs, c', h, hi => by simp only [V.leave] at hi; obtain ⟨x, h1, rfl⟩ := map_some' hi; exact leaveVs_clean (l := vs) h h1
theorem leaveVs_clean : ∀ {l l' : List V}, cleanVs l = true → leaveVs rs l = some l' → cleanVs l' = true
  | [], l', h, hi => by simp only [leaveVs, Option.some.injEq] at hi; subst hi; rfl
  | c :: t, l', h, hi => by
    simp only [leaveVs] at hi
    obtain ⟨c1, h1, h2⟩ := Option.bind_eq_some_iff.1 hi
    obtain ⟨t1, h3, rfl⟩ := map_some' h2
    simp only [cleanVs, Bool.and_eq_true] at h ⊢
    exact ⟨leave_clean h.1 h1, leaveVs_clean h.2 h3⟩
end

theorem ptrsVs_mem : ∀ {l : List V} {i : Nat} {x : V} {y : Root × Nat}, l[i]? = some x → y ∈ x.ptrsV → y ∈ ptrsVs l
  | [], _, _, _, h, _ => by simp at h
  | x :: t, 0, c, y, h, hy => by simp at h; subst h; simp [ptrsVs, hy]
  | x :: t, i + 1, c, y, h, hy => by simp only [ptrsVs, List.mem_append]; exact .inr (ptrsVs_mem (by simpa using h) hy)
theorem ptrsBs_mem : ∀ {l : List (List C)} {i : Nat} {x : List C} {y : Root × Nat}, l[i]? = some x → y ∈ ptrsL x → y ∈ ptrsBs l
  | [], _, _, _, h, _ => by simp at h
  | x :: t, 0, c, y, h, hy => by simp at h; subst h; simp [ptrsBs, hy]
  | x :: t, i + 1, c, y, h, hy => by simp only [ptrsBs, List.mem_append]; exact .inr (ptrsBs_mem (by simpa using h) hy)

theorem RepV.leaveH {x : V} {v : Value} (h : RepV nm w L γ (.h 0) x v) : ∀ {x' : V}, x.leave rs = some x' → (∀ y ∈ x.ptrsV, y.2 = γ (.r y.1)) → RepV nm w (leaveLb rs E L) (fun _ => 0) (.h 0) x' v := by
  induction h with
  | one h =>
    intro x' hi hl
    simp only [V.leave] at hi
    obtain ⟨c', h1, rfl⟩ := map_some' hi
    exact .one (h.leaveH h1 hl)
  | @agg cs vs hlen h =>
    intro x' hi hl
    simp only [V.leave] at hi
    obtain ⟨cs', h1, rfl⟩ := map_some' hi
    refine .agg (by rw [inL_length h1]; exact hlen) (fun j c u hj hu => ?_)
    obtain ⟨c0, g1, g2⟩ := inL_get j h1 hj
    exact (h j c0 u g1 hu).leaveH g2 (fun y hy => hl y (ptrsL_mem g1 hy))
  | @tup vs us hlen hcl h ih =>
    intro x' hi hl
    simp only [V.leave] at hi
    obtain ⟨vs', h1, rfl⟩ := map_some' hi
    refine .tup (by rw [leaveVs_length h1]; exact hlen) (leaveVs_clean hcl h1) (fun i x u hj hu => ?_)
    obtain ⟨c0, g1, g2⟩ := leaveVs_get i h1 hj
    exact ih i c0 u g1 hu g2 (fun y hy => hl y (ptrsVs_mem g1 hy))

theorem exts_get : ∀ (n i k : Nat), (extsOf i n)[k]? = if k < n then some (Root.e (i + k)) else none
  | 0, i, k => by simp [extsOf]
  | n + 1, i, 0 => by simp [extsOf]
  | n + 1, i, k + 1 => by
    simp only [extsOf, List.getElem?_cons_succ]
    rw [exts_get n (i + 1) k]
    simp only [Nat.add_lt_add_iff_right, show i + 1 + k = i + (k + 1) by omega]
theorem exts_length : ∀ (n i : Nat), (extsOf i n).length = n
  | 0, i => rfl
  | n + 1, i => by simp [extsOf, exts_length n (i + 1)]
theorem exts_mem {n i : Nat} {r : Root} (h : r ∈ extsOf i n) : ∃ k, r = .e k ∧ i ≤ k := by
  obtain ⟨k, hk⟩ := List.getElem?_of_mem h
  rw [exts_get] at hk
  split at hk
  · simp only [Option.some.injEq] at hk; exact ⟨i + k, hk.symm, by omega⟩
  · cases hk
theorem exts_nodup : ∀ (n i : Nat), (extsOf i n).Nodup
  | 0, i => List.nodup_nil
  | n + 1, i => by
    simp only [extsOf, List.nodup_cons]
    refine ⟨fun h => ?_, exts_nodup n (i + 1)⟩
    obtain ⟨k, h1, h2⟩ := exts_mem h
    simp only [Root.e.injEq] at h1
    omega

theorem outBoxes_inv : ∀ {bs : List (List C)} {i : Nat} {out : List (List C)}, (outBoxes ws i bs).run S0 = some out → out.length = bs.length ∧
    ∀ (k : Nat) cs, out[k]? = some cs → cs.length = boxN ((S0.wrs ws).E (.r (.e (i + k)))) ∧ ∀ (j : Nat) x, cs[j]? = some x → (S0.wrs ws).E (.b (.e (i + k)) j) = .one x
  | [], i, out, h => by
    simp only [outBoxes] at h
    obtain rfl := Q.run_pure_some h
    exact ⟨rfl, fun k cs h => by simp at h⟩
  | b :: bs, i, out, h => by
    simp only [outBoxes] at h
    obtain ⟨e, h1, h2⟩ := Q.run_bind_some h
    clear h
    rw [atP_run] at h1
    simp only [Option.some.injEq] at h1
    subst h1
    obtain ⟨h3, h4⟩ := Q.run_guard_some h2
    clear h2
    obtain ⟨cs, h5, h6⟩ := Q.run_bind_some h4
    clear h4
    obtain ⟨out', h7, h8⟩ := Q.run_bind_some h6
    clear h6
    obtain rfl := Q.run_pure_some h8
    obtain ⟨g1, g2⟩ := rawCells_inv _ _ h5
    obtain ⟨g3, g4⟩ := outBoxes_inv h7
    refine ⟨by simp [g3], fun k cs' hk => ?_⟩
    cases k with
    | zero =>
      simp only [List.getElem?_cons_zero, Option.some.injEq] at hk
      subst hk
      simp only [beq_iff_eq] at h3
      refine ⟨by rw [g1]; exact h3.symm, fun j x hj => ?_⟩
      have := g2 j x hj
      rwa [Nat.zero_add] at this
    | succ k =>
      have := g4 k cs' (by simpa using hk)
      rwa [show i + 1 + k = i + (k + 1) by omega] at this

theorem newBox_l : ∀ {l : List (Root × Nat)} {r : Root}, newBox l = some r → ∃ i, r = .l i
  | [], r, h => by simp [newBox] at h
  | (.l i, g) :: t, r, h => by simp only [newBox, Option.some.injEq] at h; exact ⟨i, h.symm⟩
  | (.e i, g) :: t, r, h => by simp only [newBox] at h; exact newBox_l h
  | (.g i, g) :: t, r, h => by simp only [newBox] at h; exact newBox_l h

/-- The labels behind a call, from within. -/
structure LeaveL (n : Nat) (L L' : LabF) : Prop where
  imm : ∀ B, L B = some .imm → L' B = some .imm
  none : ∀ B, L B = none → L' B = none
  ebox : ∀ B i o, i < n → L B = some (.box (.e i) o) → L' B = some (.box (.e i) o)

theorem leaveLb_L {n : Nat} (hrs : ∀ i, i < n → rootIdx rs (.e i) 0 = some i) : LeaveL n L (leaveLb rs E L) := by
  refine ⟨fun B hB => leaveLb_ext (enterL_imm hB), fun B hB => ?_, fun B i o hi hB => leaveLb_ext (enterL_box hB (hrs i hi))⟩
  unfold leaveLb; rw [hB]; simp [enterL, hB]

theorem evRet_rep (R0 : Rel nm N S0 a w L0) (hH : NoH L0) {fn : IFunc} {bx : List (List C)} {rvs : List ResultVar} (hc : rvs.mapM (compR P) = some fn.results) {r : V × List (List C)} (hr : (evRet fn bx).run S0 = some r) :
    ∃ (vs : List Value) (L' : LabF), vs.length = rvs.length ∧ (∀ (j : Nat) rv v, rvs[j]? = some rv → vs[j]? = some v → resVal P w a.tmps rv v) ∧
      (∃ L1, Mono w w L0 L1 ∧ LeaveL bx.length L1 L') ∧ Rel nm 0 (boxesEnts 0 r.2) ⟨#[], []⟩ w L' ∧ RepV nm w L' (fun _ => 0) (.h 0) r.1 (wholeRes vs) := by
  simp only [evRet] at hr
  obtain ⟨⟨x, ws⟩, h1, h2⟩ := Q.run_bind_some hr
  clear hr
  obtain ⟨vs, L1, M, hO, rep, hl, hv⟩ := resAll_rep R0 hH hc h1
  dsimp only at h2 M rep
  obtain ⟨out, h3, h4⟩ := Q.run_bind_some h2
  clear h2
  obtain ⟨o1, o2⟩ := outBoxes_inv h3
  simp only [Nat.zero_add] at o2
  have fin : ∀ {rs : List Root} {bs bs' : List (List C)} {x' : V}, rs.Nodup → bs.length = rs.length → (∀ i, i < bx.length → rootIdx rs (.e i) 0 = some i) →
      (∀ (k : Nat) r cs, rs[k]? = some r → bs[k]? = some cs → r.isG = false ∧ cs.length = boxN ((S0.wrs ws).E (.r r)) ∧ (∀ (j : Nat) x, cs[j]? = some x → (S0.wrs ws).E (.b r j) = .one x)) →
      (∀ y ∈ x.ptrsV ++ ptrsBs bs, LiveP S0 ws y) → x.leave rs = some x' → inBs rs bs = some bs' → r = (x', bs') →
      ∃ (vs : List Value) (L' : LabF), vs.length = rvs.length ∧ (∀ (j : Nat) rv v, rvs[j]? = some rv → vs[j]? = some v → resVal P w a.tmps rv v) ∧
      (∃ L1, Mono w w L0 L1 ∧ LeaveL bx.length L1 L') ∧ Rel nm 0 (boxesEnts 0 r.2) ⟨#[], []⟩ w L' ∧ RepV nm w L' (fun _ => 0) (.h 0) r.1 (wholeRes vs) := by
    intro rs bs bs' x' hnd hbl hrs hb hlive hx hbs hrr
    subst hrr
    have hγ : ∀ {y : Root × Nat}, LiveP S0 ws y → y.2 = (S0.wrs ws).γ (.r y.1) := fun h => by rw [γ_wrs_none h.2.1]; exact h.1
    have R1 := leave_core M.rel hnd hbl (fun k r cs h1 h2 => ⟨(hb k r cs h1 h2).1, (hb k r cs h1 h2).2.1, (hb k r cs h1 h2).2.2, fun y hy => hγ (hlive y (List.mem_append_right _ (ptrsBs_mem h2 hy)))⟩) hbs
    refine ⟨vs, leaveLb rs (S0.wrs ws).E L1, hl, hv, ⟨L1, M.mono, leaveLb_L hrs⟩, leave_rel R1 (boxes_γ _) M.rel.rowInj M.rel.dom, ?_⟩
    exact rep.leaveH hx (fun y hy => hγ (hlive y (List.mem_append_left _ hy)))
  have ridx : ∀ {rs : List Root}, rs.Nodup → (∀ i, i < bx.length → rs[i]? = some (.e i)) → ∀ i, i < bx.length → rootIdx rs (.e i) 0 = some i := by
    intro rs hnd h i hi
    have := rootIdx_of rs (i := 0) hnd (h i hi)
    rwa [Nat.zero_add] at this
  split at h4
  · obtain ⟨_, h5, h6⟩ := Q.run_bind_some h4
    clear h4
    obtain ⟨x', h7, h8⟩ := Q.run_ofO_some h6
    clear h6
    obtain ⟨out', h9, h10⟩ := Q.run_ofO_some h8
    clear h8
    have hrr := Q.run_pure_some h10
    refine fin (exts_nodup _ _) (by rw [o1, exts_length]) (ridx (exts_nodup _ _) (fun i hi => by rw [exts_get, if_pos hi, Nat.zero_add])) ?_ (liveAll_inv _ h5) h7 h9 hrr
    intro k r cs hk hcs
    rw [exts_get] at hk
    split at hk
    · simp only [Nat.zero_add, Option.some.injEq] at hk
      subst hk
      exact ⟨rfl, (o2 k cs hcs).1, (o2 k cs hcs).2⟩
    · cases hk
  · rename_i r0 hnb
    obtain ⟨i0, rfl⟩ := newBox_l hnb
    obtain ⟨e, h5, h6⟩ := Q.run_bind_some h4
    clear h4
    rw [atP_run] at h5
    simp only [Option.some.injEq] at h5
    subst h5
    obtain ⟨cs0, h7, h8⟩ := Q.run_bind_some h6
    clear h6
    obtain ⟨_, h9, h10⟩ := Q.run_bind_some h8
    clear h8
    obtain ⟨x', h11, h12⟩ := Q.run_ofO_some h10
    clear h10
    obtain ⟨out', h13, h14⟩ := Q.run_ofO_some h12
    clear h12
    have hrr := Q.run_pure_some h14
    obtain ⟨g1, g2⟩ := rawCells_inv _ _ h7
    have hnd : (extsOf 0 bx.length ++ [Root.l i0]).Nodup := by
      rw [List.nodup_append]
      refine ⟨exts_nodup _ _, by simp, fun y hy z hz h => ?_⟩
      simp at hz
      subst hz; subst h
      obtain ⟨k, h1, _⟩ := exts_mem hy
      cases h1
    refine fin hnd (by simp [o1, exts_length]) (ridx hnd (fun i hi => by rw [List.getElem?_append_left (by rw [exts_length]; exact hi), exts_get, if_pos hi, Nat.zero_add])) ?_ (liveAll_inv _ h9) h11 h13 hrr
    intro k r1 cs hk hcs
    by_cases hkl : k < bx.length
    · rw [List.getElem?_append_left (by rw [exts_length]; exact hkl), exts_get, if_pos hkl] at hk
      simp only [Nat.zero_add, Option.some.injEq] at hk
      subst hk
      rw [List.getElem?_append_left (by rw [o1]; exact hkl)] at hcs
      exact ⟨rfl, (o2 k cs hcs).1, (o2 k cs hcs).2⟩
    · rw [List.getElem?_append_right (by rw [exts_length]; omega), exts_length] at hk
      rw [List.getElem?_append_right (by rw [o1]; omega), o1] at hcs
      cases hd : k - bx.length with
      | zero =>
        simp [hd] at hk hcs
        subst hk; subst hcs
        refine ⟨rfl, g1, fun j x hj => ?_⟩
        have := g2 j x hj
        rwa [Nat.zero_add] at this
      | succ n => simp [hd] at hk
end
end Go.Abs
