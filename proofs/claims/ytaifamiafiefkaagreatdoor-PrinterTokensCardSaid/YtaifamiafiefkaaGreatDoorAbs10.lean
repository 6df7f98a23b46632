/- An evaluator of the model's code over plain data, and that what it answers the model does: part 11 of 11. -/
import Derived.Test.YtaifamiafiefkaaGreatDoorAbs9
import Derived.ChangeSame
import Derived.RowKit
import Derived.Deep.Slices
import Derived.Test.YtaifamiafiefkaaGreatDoorAbs3
import Derived.Below
import Derived.Test.YtaifamiafiefkaaGreatDoorAbs6
set_option linter.unusedVariables false
set_option linter.unusedSimpArgs false
namespace Go.Abs
section
def leaveLb (rs : List Root) (E : Key → V) (L : LabF) : LabF := fun B =>
  match L B with
  | some (.row ⟨.h 0, j, p⟩ o) => some (.row ⟨.h 0, j, p⟩ o)
  | _ => enterL rs E L B
section
variable {nm : FuncId → Option Nat} {N : Nat} {S S0 : St} {a : Act} {w : World} {L L0 L' : LabF} {P : Program} {ws : List Wr} {γ : Key → Nat} {rs : List Root} {E : Key → V}
theorem leaveLb_ext {B : Nat} {l : Lab} (h : enterL rs E L B = some l) : leaveLb rs E L B = some l := by
  unfold leaveLb
  split
  · rename_i j p o hL
    simp [enterL, hL] at h
  · exact h
theorem leaveLb_h {B j o : Nat} {p : List (Nat × Nat)} (h : L B = some (.row ⟨.h 0, j, p⟩ o)) : leaveLb rs E L B = some (.row ⟨.h 0, j, p⟩ o) := by
  unfold leaveLb; simp [h]
theorem leaveLb_back {B : Nat} {l : Lab} (h : leaveLb rs E L B = some l) : enterL rs E L B = some l ∨ ∃ j p o, l = .row ⟨.h 0, j, p⟩ o ∧ L B = some l := by
  unfold leaveLb at h
  split at h
  · rename_i j p o hL
    simp only [Option.some.injEq] at h
    subst h
    exact .inr ⟨j, p, o, rfl, hL⟩
  · exact .inl h
theorem leaveLb_stp : Step w w (enterL rs E L) (leaveLb rs E L) (fun _ => 0) (fun _ => 0) :=
  ⟨fun B hB => ⟨leaveLb_ext hB, rfl⟩, fun _ => Nat.le_refl _, fun B q o _ _ hB => ⟨leaveLb_ext hB, fun cur e fz h => ⟨cur, h, rfl⟩⟩, fun _ _ _ _ _ _ _ => rfl, fun B r o _ hB => leaveLb_ext hB⟩
theorem leave_rel (R : Rel nm 0 S ⟨#[], []⟩ w (enterL rs E L)) (hS : S.γ = fun _ => 0) (hinj : RowInj L) (hdom : Dom w L) : Rel nm 0 S ⟨#[], []⟩ w (leaveLb rs E L) := by
  have hst : Step w w (enterL rs E L) (leaveLb rs E L) S.γ S.γ := by rw [hS]; exact leaveLb_stp
  have noh : ∀ {B q o}, enterL rs E L B = some (.row q o) → q.k.isPl = true := by
    intro B q o hB
    rcases enterL_back hB with ⟨h, _⟩ | ⟨_, _, _, h, _⟩ | ⟨_, _, _, _, _, _, _, h, _⟩
    · cases h
    · cases h
    · simp only [Lab.row.injEq] at h; rw [h.1]; rfl
  refine ⟨R.size, R.defers, ?_, ?_, R.bone, R.bound, ?_, ?_, ?_, ?_⟩
  · intro i
    exact (R.slot i).step hst (fun B q o hq hB => by rw [← hq, Place.at_self]; exact ⟨leaveLb_ext hB, rfl⟩)
  · intro r c x hx hxd
    exact (R.cell r c x hx hxd).step hst (fun B q o _ hB => ⟨leaveLb_ext hB, rfl⟩) (fun B o hB => ⟨leaveLb_ext hB, fun cur e fz hc => ⟨cur, hc, rfl, rfl⟩⟩)
  · intro r hg hr
    obtain ⟨B, o, cur, e, fz, h1, h2, h3, h4⟩ := R.room r hg hr
    exact ⟨B, o, cur, e, fz, leaveLb_ext h1, h2, h3, h4⟩
  · intro B l hB
    rcases leaveLb_back hB with h | ⟨_, _, _, _, h⟩
    · exact R.dom B l h
    · exact hdom B l h
  · intro B B' pl o o' h1 h2
    rcases leaveLb_back h1 with g1 | ⟨j, p, o1, e1, g1⟩
    · rcases leaveLb_back h2 with g2 | ⟨j', p', o1', e2, g2⟩
      · exact R.rowInj B B' pl o o' g1 g2
      · have := noh g1
        simp only [Lab.row.injEq] at e2
        rw [e2.1] at this
        simp [Key.isPl] at this
    · rcases leaveLb_back h2 with g2 | ⟨j', p', o1', e2, g2⟩
      · have := noh g2
        simp only [Lab.row.injEq] at e1
        rw [e1.1] at this
        simp [Key.isPl] at this
      · exact hinj B B' pl o o' g1 g2
  · intro B B' r o o' h1 h2
    rcases leaveLb_back h1 with g1 | ⟨_, _, _, e1, _⟩
    · rcases leaveLb_back h2 with g2 | ⟨_, _, _, e2, _⟩
      · exact R.boxInj B B' r o o' g1 g2
      · cases e2
    · cases e1
theorem RepC.leaveH {j : Nat} {c : C} {v : Value} (h : RepC nm w L γ (.h 0) j c v) {c' : C} (hi : c.inC rs = some c') (hl : ∀ x ∈ c.ptrs, x.2 = γ (.r x.1)) : RepC nm w (leaveLb rs E L) (fun _ => 0) (.h 0) j c' v := by
  have cl : c.clean = true → RepC nm w (leaveLb rs E L) (fun _ => 0) (.h 0) j c' v := by
    intro hc
    refine (h.enter (rs := rs) (E := E) hi hl hc (.h 0) j).step leaveLb_stp (fun B q o h1 h2 hB => ?_)
    rw [← h1, ← h2, Place.at_self]
    exact ⟨leaveLb_ext hB, rfl⟩
  cases c with
  | d x =>
    simp only [C.inC, Option.some.injEq] at hi
    subst hi
    cases h with
    | d h =>
      refine .d (RepD.move id (fun q => q.k = .h 0) (fun _ _ _ h => h) (fun _ _ _ _ => rfl) (fun B hB => ⟨leaveLb_ext (enterL_imm hB), rfl⟩) (fun B q o hq hB => ⟨?_, rfl⟩) h rfl)
      obtain ⟨k, j, p⟩ := q
      simp only at hq
      subst hq
      exact leaveLb_h hB
  | appd => simp [C.inC] at hi
  | mp => simp [C.inC] at hi
  | bld t => exact absurd rfl (h.nbld t)
  | _ => exact cl (h.clean_of rfl)
theorem leaveVs_get : ∀ {l l' : List V} (j : Nat) {c' : V}, leaveVs rs l = some l' → l'[j]? = some c' → ∃ c, l[j]? = some c ∧ c.leave rs = some c'
  | [], l', j, c', h, hj => by simp only [leaveVs, Option.some.injEq] at h; subst h; simp at hj
  | c :: t, l', j, c', h, hj => by
    simp only [leaveVs] at h
    obtain ⟨c1, h1, h2⟩ := Option.bind_eq_some_iff.1 h
    obtain ⟨t1, h3, rfl⟩ := map_some' h2
    cases j with
    | zero => simp at hj; subst hj; exact ⟨c, rfl, h1⟩
    | succ j => obtain ⟨c2, g1, g2⟩ := leaveVs_get j h3 (by simpa using hj); exact ⟨c2, by simpa using g1, g2⟩
theorem leaveVs_length : ∀ {l l' : List V}, leaveVs rs l = some l' → l'.length = l.length
  | [], l', h => by simp only [leaveVs, Option.some.injEq] at h; subst h; rfl
  | c :: t, l', h => by
    simp only [leaveVs] at h
    obtain ⟨c1, h1, h2⟩ := Option.bind_eq_some_iff.1 h
    obtain ⟨t1, h3, rfl⟩ := map_some' h2
    simp [leaveVs_length h3]
mutual
theorem leave_clean : ∀ {c c' : V}, c.clean = true → c.leave rs = some c' → c'.clean = true
  | .one c, c', h, hi => by simp only [V.leave] at hi; obtain ⟨x, h1, rfl⟩ := map_some' hi; exact inC_clean (c := c) h h1
  | .agg cs, c', h, hi => by simp only [V.leave] at hi; obtain ⟨x, h1, rfl⟩ := map_some' hi; exact inL_clean (l := cs) h h1
  | .tup vs, c', h, hi => by simp only [V.leave] at hi; obtain ⟨x, h1, rfl⟩ := map_some' hi; exact leaveVs_clean (l := vs) h h1
theorem leaveVs_clean : ∀ {l l' : List V}, cleanVs l = true → leaveVs rs l = some l' → cleanVs l' = true
  | [], l', h, hi => by simp only [leaveVs, Option.some.injEq] at hi; subst hi; rfl
  | c :: t, l', h, hi => by
    simp only [leaveVs] at hi
    obtain ⟨c1, h1, h2⟩ := Option.bind_eq_some_iff.1 hi
    obtain ⟨t1, h3, rfl⟩ := map_some' h2
    simp only [cleanVs, Bool.and_eq_true] at h ⊢
    exact ⟨leave_clean h.1 h1, leaveVs_clean h.2 h3⟩
end
theorem ptrsVs_mem : ∀ {l : List V} {i : Nat} {x : V} {y : Root × Nat}, l[i]? = some x → y ∈ x.ptrsV → y ∈ ptrsVs l
  | [], _, _, _, h, _ => by simp at h
  | x :: t, 0, c, y, h, hy => by simp at h; subst h; simp [ptrsVs, hy]
  | x :: t, i + 1, c, y, h, hy => by simp only [ptrsVs, List.mem_append]; exact .inr (ptrsVs_mem (by simpa using h) hy)
theorem ptrsBs_mem : ∀ {l : List (List C)} {i : Nat} {x : List C} {y : Root × Nat}, l[i]? = some x → y ∈ ptrsL x → y ∈ ptrsBs l
  | [], _, _, _, h, _ => by simp at h
  | x :: t, 0, c, y, h, hy => by simp at h; subst h; simp [ptrsBs, hy]
  | x :: t, i + 1, c, y, h, hy => by simp only [ptrsBs, List.mem_append]; exact .inr (ptrsBs_mem (by simpa using h) hy)
theorem RepV.leaveH {x : V} {v : Value} (h : RepV nm w L γ (.h 0) x v) : ∀ {x' : V}, x.leave rs = some x' → (∀ y ∈ x.ptrsV, y.2 = γ (.r y.1)) → RepV nm w (leaveLb rs E L) (fun _ => 0) (.h 0) x' v := by
  induction h with
  | one h =>
    intro x' hi hl
    simp only [V.leave] at hi
    obtain ⟨c', h1, rfl⟩ := map_some' hi
    exact .one (h.leaveH h1 hl)
  | @agg cs vs hlen h =>
    intro x' hi hl
    simp only [V.leave] at hi
    obtain ⟨cs', h1, rfl⟩ := map_some' hi
    refine .agg (by rw [inL_length h1]; exact hlen) (fun j c u hj hu => ?_)
    obtain ⟨c0, g1, g2⟩ := inL_get j h1 hj
    exact (h j c0 u g1 hu).leaveH g2 (fun y hy => hl y (ptrsL_mem g1 hy))
  | @tup vs us hlen hcl h ih =>
    intro x' hi hl
    simp only [V.leave] at hi
    obtain ⟨vs', h1, rfl⟩ := map_some' hi
    refine .tup (by rw [leaveVs_length h1]; exact hlen) (leaveVs_clean hcl h1) (fun i x u hj hu => ?_)
    obtain ⟨c0, g1, g2⟩ := leaveVs_get i h1 hj
    exact ih i c0 u g1 hu g2 (fun y hy => hl y (ptrsVs_mem g1 hy))
theorem exts_get : ∀ (n i k : Nat), (extsOf i n)[k]? = if k < n then some (Root.e (i + k)) else none
  | 0, i, k => by simp [extsOf]
  | n + 1, i, 0 => by simp [extsOf]
  | n + 1, i, k + 1 => by
    simp only [extsOf, List.getElem?_cons_succ]
    rw [exts_get n (i + 1) k]
    simp only [Nat.add_lt_add_iff_right, show i + 1 + k = i + (k + 1) by omega]
theorem exts_length : ∀ (n i : Nat), (extsOf i n).length = n
  | 0, i => rfl
  | n + 1, i => by simp [extsOf, exts_length n (i + 1)]
theorem exts_mem {n i : Nat} {r : Root} (h : r ∈ extsOf i n) : ∃ k, r = .e k ∧ i ≤ k := by
  obtain ⟨k, hk⟩ := List.getElem?_of_mem h
  rw [exts_get] at hk
  split at hk
  · simp only [Option.some.injEq] at hk; exact ⟨i + k, hk.symm, by omega⟩
  · cases hk
theorem exts_nodup : ∀ (n i : Nat), (extsOf i n).Nodup
  | 0, i => List.nodup_nil
  | n + 1, i => by
    simp only [extsOf, List.nodup_cons]
    refine ⟨fun h => ?_, exts_nodup n (i + 1)⟩
    obtain ⟨k, h1, h2⟩ := exts_mem h
    simp only [Root.e.injEq] at h1
    omega
theorem outBoxes_inv : ∀ {bs : List (List C)} {i : Nat} {out : List (List C)}, (outBoxes ws i bs).run S0 = some out → out.length = bs.length ∧
    ∀ (k : Nat) cs, out[k]? = some cs → cs.length = boxN ((S0.wrs ws).E (.r (.e (i + k)))) ∧ ∀ (j : Nat) x, cs[j]? = some x → (S0.wrs ws).E (.b (.e (i + k)) j) = .one x
  | [], i, out, h => by
    simp only [outBoxes] at h
    obtain rfl := Q.run_pure_some h
    exact ⟨rfl, fun k cs h => by simp at h⟩
  | b :: bs, i, out, h => by
    simp only [outBoxes] at h
    obtain ⟨e, h1, h2⟩ := Q.run_bind_some h
    clear h
    rw [atP_run] at h1
    simp only [Option.some.injEq] at h1
    subst h1
    obtain ⟨h3, h4⟩ := Q.run_guard_some h2
    clear h2
    obtain ⟨cs, h5, h6⟩ := Q.run_bind_some h4
    clear h4
    obtain ⟨out', h7, h8⟩ := Q.run_bind_some h6
    clear h6
    obtain rfl := Q.run_pure_some h8
    obtain ⟨g1, g2⟩ := rawCells_inv _ _ h5
    obtain ⟨g3, g4⟩ := outBoxes_inv h7
    refine ⟨by simp [g3], fun k cs' hk => ?_⟩
    cases k with
    | zero =>
      simp only [List.getElem?_cons_zero, Option.some.injEq] at hk
      subst hk
      simp only [beq_iff_eq] at h3
      refine ⟨by rw [g1]; exact h3.symm, fun j x hj => ?_⟩
      have := g2 j x hj
      rwa [Nat.zero_add] at this
    | succ k =>
      have := g4 k cs' (by simpa using hk)
      rwa [show i + 1 + k = i + (k + 1) by omega] at this
theorem newBox_l : ∀ {l : List (Root × Nat)} {r : Root}, newBox l = some r → ∃ i, r = .l i
  | [], r, h => by simp [newBox] at h
  | (.l i, g) :: t, r, h => by simp only [newBox, Option.some.injEq] at h; exact ⟨i, h.symm⟩
  | (.e i, g) :: t, r, h => by simp only [newBox] at h; exact newBox_l h
  | (.g i, g) :: t, r, h => by simp only [newBox] at h; exact newBox_l h
structure LeaveL (n : Nat) (L L' : LabF) : Prop where
  imm : ∀ B, L B = some .imm → L' B = some .imm
  none : ∀ B, L B = none → L' B = none
  ebox : ∀ B i o, i < n → L B = some (.box (.e i) o) → L' B = some (.box (.e i) o)
theorem leaveLb_L {n : Nat} (hrs : ∀ i, i < n → rootIdx rs (.e i) 0 = some i) : LeaveL n L (leaveLb rs E L) := by
  refine ⟨fun B hB => leaveLb_ext (enterL_imm hB), fun B hB => ?_, fun B i o hi hB => leaveLb_ext (enterL_box hB (hrs i hi))⟩
  unfold leaveLb; rw [hB]; simp [enterL, hB]
theorem evRet_rep (R0 : Rel nm N S0 a w L0) (hH : NoH L0) {fn : IFunc} {bx : List (List C)} {rvs : List ResultVar} (hc : rvs.mapM (compR P) = some fn.results) {r : V × List (List C)} (hr : (evRet fn bx).run S0 = some r) :
    ∃ (vs : List Value) (L' : LabF), vs.length = rvs.length ∧ (∀ (j : Nat) rv v, rvs[j]? = some rv → vs[j]? = some v → resVal P w a.tmps rv v) ∧
      (∃ L1, Mono w w L0 L1 ∧ LeaveL bx.length L1 L') ∧ Rel nm 0 (boxesEnts 0 r.2) ⟨#[], []⟩ w L' ∧ RepV nm w L' (fun _ => 0) (.h 0) r.1 (wholeRes vs) := by
  simp only [evRet] at hr
  obtain ⟨⟨x, ws⟩, h1, h2⟩ := Q.run_bind_some hr
  clear hr
  obtain ⟨vs, L1, M, hO, rep, hl, hv⟩ := resAll_rep R0 hH hc h1
  dsimp only at h2 M rep
  obtain ⟨out, h3, h4⟩ := Q.run_bind_some h2
  clear h2
  obtain ⟨o1, o2⟩ := outBoxes_inv h3
  simp only [Nat.zero_add] at o2
  have fin : ∀ {rs : List Root} {bs bs' : List (List C)} {x' : V}, rs.Nodup → bs.length = rs.length → (∀ i, i < bx.length → rootIdx rs (.e i) 0 = some i) →
      (∀ (k : Nat) r cs, rs[k]? = some r → bs[k]? = some cs → r.isG = false ∧ cs.length = boxN ((S0.wrs ws).E (.r r)) ∧ (∀ (j : Nat) x, cs[j]? = some x → (S0.wrs ws).E (.b r j) = .one x)) →
      (∀ y ∈ x.ptrsV ++ ptrsBs bs, LiveP S0 ws y) → x.leave rs = some x' → inBs rs bs = some bs' → r = (x', bs') →
      ∃ (vs : List Value) (L' : LabF), vs.length = rvs.length ∧ (∀ (j : Nat) rv v, rvs[j]? = some rv → vs[j]? = some v → resVal P w a.tmps rv v) ∧
      (∃ L1, Mono w w L0 L1 ∧ LeaveL bx.length L1 L') ∧ Rel nm 0 (boxesEnts 0 r.2) ⟨#[], []⟩ w L' ∧ RepV nm w L' (fun _ => 0) (.h 0) r.1 (wholeRes vs) := by
    intro rs bs bs' x' hnd hbl hrs hb hlive hx hbs hrr
    subst hrr
    have hγ : ∀ {y : Root × Nat}, LiveP S0 ws y → y.2 = (S0.wrs ws).γ (.r y.1) := fun h => by rw [γ_wrs_none h.2.1]; exact h.1
    have R1 := leave_core M.rel hnd hbl (fun k r cs h1 h2 => ⟨(hb k r cs h1 h2).1, (hb k r cs h1 h2).2.1, (hb k r cs h1 h2).2.2, fun y hy => hγ (hlive y (List.mem_append_right _ (ptrsBs_mem h2 hy)))⟩) hbs
    refine ⟨vs, leaveLb rs (S0.wrs ws).E L1, hl, hv, ⟨L1, M.mono, leaveLb_L hrs⟩, leave_rel R1 (boxes_γ _) M.rel.rowInj M.rel.dom, ?_⟩
    exact rep.leaveH hx (fun y hy => hγ (hlive y (List.mem_append_left _ hy)))
  have ridx : ∀ {rs : List Root}, rs.Nodup → (∀ i, i < bx.length → rs[i]? = some (.e i)) → ∀ i, i < bx.length → rootIdx rs (.e i) 0 = some i := by
    intro rs hnd h i hi
    have := rootIdx_of rs (i := 0) hnd (h i hi)
    rwa [Nat.zero_add] at this
  split at h4
  · obtain ⟨_, h5, h6⟩ := Q.run_bind_some h4
    clear h4
    obtain ⟨x', h7, h8⟩ := Q.run_ofO_some h6
    clear h6
    obtain ⟨out', h9, h10⟩ := Q.run_ofO_some h8
    clear h8
    have hrr := Q.run_pure_some h10
    refine fin (exts_nodup _ _) (by rw [o1, exts_length]) (ridx (exts_nodup _ _) (fun i hi => by rw [exts_get, if_pos hi, Nat.zero_add])) ?_ (liveAll_inv _ h5) h7 h9 hrr
    intro k r cs hk hcs
    rw [exts_get] at hk
    split at hk
    · simp only [Nat.zero_add, Option.some.injEq] at hk
      subst hk
      exact ⟨rfl, (o2 k cs hcs).1, (o2 k cs hcs).2⟩
    · cases hk
  · rename_i r0 hnb
    obtain ⟨i0, rfl⟩ := newBox_l hnb
    obtain ⟨e, h5, h6⟩ := Q.run_bind_some h4
    clear h4
    rw [atP_run] at h5
    simp only [Option.some.injEq] at h5
    subst h5
    obtain ⟨cs0, h7, h8⟩ := Q.run_bind_some h6
    clear h6
    obtain ⟨_, h9, h10⟩ := Q.run_bind_some h8
    clear h8
    obtain ⟨x', h11, h12⟩ := Q.run_ofO_some h10
    clear h10
    obtain ⟨out', h13, h14⟩ := Q.run_ofO_some h12
    clear h12
    have hrr := Q.run_pure_some h14
    obtain ⟨g1, g2⟩ := rawCells_inv _ _ h7
    have hnd : (extsOf 0 bx.length ++ [Root.l i0]).Nodup := by
      rw [List.nodup_append]
      refine ⟨exts_nodup _ _, by simp, fun y hy z hz h => ?_⟩
      simp at hz
      subst hz; subst h
      obtain ⟨k, h1, _⟩ := exts_mem hy
      cases h1
    refine fin hnd (by simp [o1, exts_length]) (ridx hnd (fun i hi => by rw [List.getElem?_append_left (by rw [exts_length]; exact hi), exts_get, if_pos hi, Nat.zero_add])) ?_ (liveAll_inv _ h9) h11 h13 hrr
    intro k r1 cs hk hcs
    by_cases hkl : k < bx.length
    · rw [List.getElem?_append_left (by rw [exts_length]; exact hkl), exts_get, if_pos hkl] at hk
      simp only [Nat.zero_add, Option.some.injEq] at hk
      subst hk
      rw [List.getElem?_append_left (by rw [o1]; exact hkl)] at hcs
      exact ⟨rfl, (o2 k cs hcs).1, (o2 k cs hcs).2⟩
    · rw [List.getElem?_append_right (by rw [exts_length]; omega), exts_length] at hk
      rw [List.getElem?_append_right (by rw [o1]; omega), o1] at hcs
      cases hd : k - bx.length with
      | zero =>
        simp [hd] at hk hcs
        subst hk; subst hcs
        refine ⟨rfl, g1, fun j x hj => ?_⟩
        have := g2 j x hj
        rwa [Nat.zero_add] at this
      | succ n => simp [hd] at hk
end
end
section
section
variable {nm : FuncId → Option Nat} {G : Nat → Option Obj} {N n : Nat} {S S0 : St} {a : Act} {w : World} {L L0 L' : LabF} {P : Program} {Cl : Oracle}
theorem frame_rel {args : Array Value} {m : Nat} (R : Rel nm n S ⟨args, []⟩ w L) (h : n ≤ m) : Rel nm m S ⟨args ++ Array.replicate (m - args.size) undef, []⟩ w L := by
  have hs : args.size = n := R.size
  refine ⟨by simp [hs]; omega, rfl, fun i => ?_, R.cell, R.bone, R.bound, R.room, R.dom, R.rowInj, R.boxInj⟩
  have := R.slot i
  have e : (args ++ Array.replicate (m - args.size) undef).getD i undef = args.getD i undef := by
    simp only [Array.getD_eq_getD_getElem?]
    by_cases hi : i < args.size
    · rw [Array.getElem?_append_left hi]
    · rw [Array.getElem?_append_right (by omega), Array.getElem?_eq_none (show args.size ≤ i by omega)]
      by_cases h2 : i - args.size < m - args.size
      · rw [Array.getElem?_replicate, if_pos h2]; rfl
      · rw [Array.getElem?_replicate, if_neg h2]
  show RepV nm w L S.γ (.s i) (S.E (.s i)) ((args ++ Array.replicate (m - args.size) undef).getD i undef)
  rw [e]
  exact this
theorem body_sound (hmx : P.follows .mixedOrders = true) (hc : CallOk P nm G Cl) {hh : Hint} {fg : Bool} {f : Func} {fid : FuncId} {fn : IFunc} (hf : P.funcs[fid]? = some f) (hname : (f.name == "runtime.NumGoroutine") = false)
    (hcomp : compF P nm hh f fg = some fn) {vs : List V} {bx : List (List C)} {r : V} {out : List (List C)} (he : evBody Cl n fn vs bx = some (r, out))
    {args : Array Value} (R : Rel nm vs.length (argEnts 0 vs ++ boxesEnts 0 bx) ⟨args, []⟩ w L) (hH : NoH L) (hG : GI G w L) (hE : ∀ B i o, L B = some (.box (.e i) o) → i < bx.length) :
    FnTo P fid args w fun v w' => ∃ L', Mono w w' L L' ∧ Rel nm 0 (boxesEnts 0 out) ⟨#[], []⟩ w' L' ∧ RepV nm w' L' (fun _ => 0) (.h 0) r v := by
  unfold compF at hcomp
  obtain ⟨c, hb, h1⟩ := bind_some hcomp
  clear hcomp
  split at h1
  · cases h1
  rename_i hnt
  have hnt : hh.nt = f.ntmps := Classical.not_not.1 hnt
  obtain ⟨ic, h2, h3⟩ := bind_some h1
  clear h1
  obtain ⟨Rs, h4, h5⟩ := bind_some h3
  clear h3
  cases h5
  unfold evBody at he
  split at he
  rotate_left
  · cases he
  rename_i hargs
  obtain ⟨⟨e, Sf⟩, h6, h7⟩ := Option.bind_eq_some_iff.1 he
  clear he
  have hrun : (callFunc fid args).run P w = .ok (.enter fid args) w := by
    have hname' : ¬ f.name = "runtime.NumGoroutine" := by simpa using hname
    simp [callFunc, hf, hname', hb]
  unfold FnTo
  rw [hrun]
  refine calls_of_wp hf hb (code_sound hmx hc hnt n c h2 h6 (frame_rel R hargs) hH hG ?_)
  intro a' w' L1 D
  have fin : ∀ {rr : V × List (List C)}, (evRet ⟨f.ntmps, Rs, ic, fg⟩ bx).run Sf = some rr → rr = (r, out) → a'.defers = [] ∧ ∃ v, (results f a'.tmps).run P w' = .ok v w' ∧ ∃ v', Ending.returned v = .returned v' ∧ ∃ L', Mono w w' L L' ∧ Rel nm 0 (boxesEnts 0 out) ⟨#[], []⟩ w' L' ∧ RepV nm w' L' (fun _ => 0) (.h 0) r v' := by
    intro rr hrr heq
    subst heq
    obtain ⟨us, L2, k1, k2, ⟨L3, k3, k4⟩, k5, k6⟩ := evRet_rep D.rel D.noH h4 hrr
    refine ⟨D.rel.defers, _, run_results k1 k2, _, rfl, L2, ?_, k5, k6⟩
    have m1 := D.mono.trans k3
    refine ⟨m1.os, m1.tape, m1.output, m1.size, fun B hB => ⟨k4.imm B (m1.imm B hB).1, (m1.imm B hB).2⟩, fun B hl hB => ⟨k4.none B (m1.none B hl hB).1, (m1.none B hl hB).2⟩, fun B i o hB => k4.ebox B i o (hE B i o hB) (m1.ebox B i o hB)⟩
  cases e with
  | norm => exact fin h7 rfl
  | ret => exact fin h7 rfl
  | exit id => simp at h7
structure TabOk (P : Program) (nm : FuncId → Option Nat) (T : Nat → Option IFunc) : Prop where
  mixed : P.follows .mixedOrders = true
  fn : ∀ {f : Nat} {fn : IFunc} {fid : FuncId}, T f = some fn → nm fid = some f → ∃ g hh fg, P.funcs[fid]? = some g ∧ (g.name == "runtime.NumGoroutine") = false ∧ compF P nm hh g fg = some fn
def PrimOk (P : Program) (nm : FuncId → Option Nat) (G : Nat → Option Obj) (T : Nat → Option IFunc) (prim : Oracle) : Prop :=
  ∀ {f : Nat} {vs : List V} {bx : List (List C)} {r : V} {out : List (List C)} {fid : FuncId}, T f = none → prim f vs bx = some (r, out) → nm fid = some f →
    ∀ {args : Array Value} {w : World} {L : LabF}, Rel nm vs.length (argEnts 0 vs ++ boxesEnts 0 bx) ⟨args, []⟩ w L → NoH L → GI G w L → (∀ B i o, L B = some (.box (.e i) o) → i < bx.length) →
      FnTo P fid args w fun v w' => ∃ L', Mono w w' L L' ∧ Rel nm 0 (boxesEnts 0 out) ⟨#[], []⟩ w' L' ∧ RepV nm w' L' (fun _ => 0) (.h 0) r v
theorem evN_sound {T : Nat → Option IFunc} {prim : Oracle} (hT : TabOk P nm T) (hp : PrimOk P nm G T prim) (n : Nat) : OSound P nm G (evN T prim n) := by
  induction n with
  | zero => intro f vs bx r out fid h; simp [evN] at h
  | succ n ih =>
    intro f vs bx r out fid h hn args w L R hH hG hE
    simp only [evN] at h
    split at h
    · rename_i fn hfn
      obtain ⟨g, hh, fg, h1, h2, h3⟩ := hT.fn hfn hn
      exact body_sound hT.mixed (callOk_of ih) h1 h2 h3 h R hH hG hE
    · rename_i hfn
      exact hp hfn h hn R hH hG hE
end
end
section
def laidFrom (P : Program) : Nat → List Field → Option Nat
  | o, [] => some o
  | o, f :: t => if f.offset = o then laidFrom P (o + P.cellsOf f.type) t else none
def simpleT (P : Program) : Nat → TypeId → Bool
  | 0, _ => false
  | n + 1, t => match P.underlying t with
    | some .bool => P.cellsOf t == 1
    | some (.int _) => P.cellsOf t == 1
    | some .string => P.cellsOf t == 1
    | some (.slice e) => P.cellsOf t == 1 && decide (0 < P.cellsOf e) && simpleT P n e
    | some (.struct fs) => fs.toList.all (fun f => simpleT P n f.type) && laidFrom P 0 fs.toList == some (P.cellsOf t)
    | _ => false
theorem mapM_mono {α β : Type} {f g : α → Option β} : ∀ {l : List α} {ys : List β}, l.mapM f = some ys → (∀ i ∈ l, ∀ y, f i = some y → g i = some y) → l.mapM g = some ys
  | [], ys, h, _ => by simpa using h
  | x :: l, ys, h, hm => by
    rw [List.mapM_cons] at h ⊢
    obtain ⟨y, h1, h2⟩ := bind_some h
    obtain ⟨t, h3, h4⟩ := bind_some h2
    rw [hm x (List.mem_cons_self ..) y h1]
    show (List.mapM g l >>= fun bs => pure (y :: bs)) = some ys
    rw [mapM_mono h3 (fun i hi => hm i (List.mem_cons_of_mem _ hi))]
    exact h4
section
variable {H : Type} {enc : TypeId × Value → H} {P : Program} {W W' : World} {sp2 : Nat → Bool}
theorem cells_keep (hold : ∀ B, B < W.heap.size → W'.heap[B]? = W.heap[B]?) {b n : Nat} {a : Addr} {cs : List Value} (h : W.cells? b a n = some cs) : W'.cells? b a n = some cs := by
  unfold World.cells? at h ⊢
  split at h
  · rename_i hb
    rw [if_pos hb]
    refine mapM_mono h (fun i _ y hy => ?_)
    have hlt : (a.add i).block < W.heap.size := by
      unfold World.cell? at hy
      split at hy
      · rename_i hc; exact (Array.getElem?_eq_some_iff.1 hc).1
      · cases hy
    unfold World.cell? at hy ⊢
    rw [hold _ hlt]
    exact hy
  · cases h
theorem cells_lt {b n : Nat} {a : Addr} {cs : List Value} (hn : 0 < n) (h : W.cells? b a n = some cs) : a.block < W.heap.size := by
  unfold World.cells? at h
  split at h
  · cases n with
    | zero => omega
    | succ n =>
      rw [List.range_succ_eq_map, List.mapM_cons] at h
      obtain ⟨y, h1, _⟩ := bind_some h
      unfold World.cell? at h1
      split at h1
      · rename_i hc; exact (Array.getElem?_eq_some_iff.1 hc).1
      · cases h1
  · cases h
theorem mapM_fuel {α β : Type} {f : α → Option β} {g : Nat → α → Option β} (hg : ∀ a b i y, a ≤ b → g a i = some y → g b i = some y) : ∀ {l : List α} {ys : List β}, l.mapM f = some ys → (∀ i ∈ l, ∀ y, f i = some y → ∃ m, g m i = some y) → ∃ m, l.mapM (g m) = some ys
  | [], ys, h, _ => ⟨0, by simpa using h⟩
  | x :: l, ys, h, hm => by
    rw [List.mapM_cons] at h
    obtain ⟨y, h1, h2⟩ := bind_some h
    obtain ⟨t, h3, h4⟩ := bind_some h2
    obtain ⟨m1, k1⟩ := hm x (List.mem_cons_self ..) y h1
    obtain ⟨m2, k2⟩ := mapM_fuel hg h3 (fun i hi => hm i (List.mem_cons_of_mem _ hi))
    refine ⟨max m1 m2, ?_⟩
    rw [List.mapM_cons, hg m1 _ x y (Nat.le_max_left ..) k1]
    show (List.mapM (g (max m1 m2)) l >>= fun bs => pure (y :: bs)) = some ys
    rw [mapM_mono k2 (fun i _ y hy => hg m2 _ i y (Nat.le_max_right ..) hy)]
    exact h4
theorem trod_keep (hold : ∀ B, B < W.heap.size → W'.heap[B]? = W.heap[B]?) (hsp : ∀ b, b < W.heap.size → sp2 b = true) : ∀ (n : Nat) (t : TypeId) (fuel : Nat) (cs : List Value) (x : DataW H × List MemPlace), simpleT P n t = true →
    DataW.trod enc P W 0 (fun _ => true) true fuel t cs = some x → ∃ m, DataW.trod enc P W' 0 sp2 true m t cs = some x := by
  intro n
  induction n with
  | zero => intro t fuel cs x hs; simp [simpleT] at hs
  | succ n ih =>
    intro t fuel cs x hs h
    simp only [simpleT] at hs
    split at hs
    · rename_i hu
      cases fuel with
      | zero => simp [DataW.trod] at h
      | succ fuel =>
        refine ⟨1, ?_⟩
        rw [DataW.trod_step] at h ⊢
        unfold DataW.trodStep at h ⊢
        simp only [hu] at h ⊢
        split at h <;> simp_all
    · rename_i hu
      cases fuel with
      | zero => simp [DataW.trod] at h
      | succ fuel =>
        refine ⟨1, ?_⟩
        rw [DataW.trod_step] at h ⊢
        unfold DataW.trodStep at h ⊢
        simp only [hu] at h ⊢
        split at h <;> simp_all
    · rename_i hu
      cases fuel with
      | zero => simp [DataW.trod] at h
      | succ fuel =>
        refine ⟨1, ?_⟩
        rw [DataW.trod_step] at h ⊢
        unfold DataW.trodStep at h ⊢
        simp only [hu] at h ⊢
        split at h <;> simp_all
    · rename_i e hu
      simp only [Bool.and_eq_true, decide_eq_true_eq] at hs
      obtain ⟨⟨_, hce⟩, hse⟩ := hs
      rcases Go.Deep.open_slice hu h with ⟨rfl, rfl⟩ | ⟨a, len, cap, m, k, Dd, Pl, rfl, hb, hl, hm, hmm, rfl, hx⟩
      · refine ⟨1, ?_⟩
        rw [DataW.trod_step]; unfold DataW.trodStep; simp only [hu]
      · have hmc : m = cap := by simpa using hmm
        subst hmc
        have hx' : ∀ i, i < m → ∃ cs n, W'.cells? 0 (a.add (i * P.cellsOf e)) (P.cellsOf e) = some cs ∧ DataW.trod enc P W' 0 sp2 true n e cs = some (Dd i, Pl i) := by
          intro i hi
          obtain ⟨cs', h1, h2⟩ := hx i hi
          obtain ⟨m', h3⟩ := ih e k cs' _ hse h2
          exact ⟨cs', m', cells_keep hold h1, h3⟩
        cases hs2 : sp2 a.block with
        | true => exact Go.Deep.shut_slice_whole_cells hu hb hl hm hs2 Dd Pl hx'
        | false =>
          have hc0 : m = 0 := by
            rcases Nat.eq_zero_or_pos m with h0 | h0
            · exact h0
            · obtain ⟨cs', h1, _⟩ := hx 0 h0
              have := hsp _ (cells_lt hce h1)
              have e1 : (a.add (0 * P.cellsOf e)).block = a.block := by first | rfl | (unfold Addr.add; split <;> rfl) | (unfold Addr.add; simp)
              rw [e1, hs2] at this; cases this
          subst hc0
          obtain rfl : len = 0 := by omega
          exact Go.Deep.shut_slice_cells hu hb hl hm hs2 Dd Pl (fun i hi => by omega)
    · rename_i fs hu
      simp only [Bool.and_eq_true, List.all_eq_true] at hs
      cases fuel with
      | zero => simp [DataW.trod] at h
      | succ fuel =>
        rw [DataW.trod_step] at h
        unfold DataW.trodStep at h
        simp only [hu] at h
        split at h
        · rename_i hl
          obtain ⟨xs, h1, h2⟩ := map_some' h
          obtain ⟨m, h3⟩ := mapM_fuel (g := fun m (f : Field) => DataW.trod enc P W' 0 sp2 true m f.type ((cs.drop f.offset).take (P.cellsOf f.type))) (fun a b i y hab hy => DataW.trod_le hab hy) h1 (fun f hf y hy => ih f.type fuel _ y (hs.1 f hf) hy)
          refine ⟨m + 1, ?_⟩
          rw [DataW.trod_step]
          unfold DataW.trodStep
          simp only [hu]
          rw [if_pos hl, h3, h2]
          rfl
        · cases h
    · cases hs
end
end
section
mutual
def dataOf {H : Type} (P : Program) : Nat → TypeId → DataW H → Option (List D)
  | 0, _, _ => none
  | n + 1, t, d => match P.underlying t, d with
    | some .bool, .lit (.bool b) => some [.bool b]
    | some (.int _), .lit (.int k z) => some [.int k z]
    | some .string, .lit (.string l) => some [.str l]
    | some (.slice e), .nil => some [.sl (.im true) (P.cellsOf e) []]
    | some (.slice e), .slice elems _ => (elems.mapM (dataOf P n e)).map fun rows => [.sl (.im false) (P.cellsOf e) rows]
    | some (.struct fs), .agg ds => dataFs P n fs.toList ds
    | _, _ => none
def dataFs {H : Type} (P : Program) : Nat → List Field → List (DataW H) → Option (List D)
  | _, [], [] => some []
  | n, f :: fs, d :: ds => (dataOf P n f.type d).bind fun x => (dataFs P n fs ds).map (x ++ ·)
  | _, _, _ => none
end
section
variable {H : Type} {enc : TypeId × Value → H} {P : Program} {W : World} {L : LabF}
theorem cells_get {b n : Nat} {a : Addr} {cs : List Value} (h : W.cells? b a n = some cs) : cs.length = n ∧ ∀ j, j < n → W.cell? (a.add j) = cs[j]? := by
  unfold World.cells? at h
  split at h
  · have hl : ∀ (l : List Nat) (ys : List Value), l.mapM (fun i => W.cell? (a.add i)) = some ys → ys.length = l.length ∧ ∀ (j : Nat) i, l[j]? = some i → W.cell? (a.add i) = ys[j]? := by
      intro l
      induction l with
      | nil => intro ys hy; have : ys = [] := by simpa using hy.symm
               subst this; exact ⟨rfl, fun j i hj => by simp at hj⟩
      | cons x l ih =>
        intro ys hy
        rw [List.mapM_cons] at hy
        obtain ⟨y, h1, h2⟩ := bind_some hy
        obtain ⟨t, h3, h4⟩ := bind_some h2
        cases h4
        obtain ⟨g1, g2⟩ := ih t h3
        refine ⟨by simp [g1], fun j i hj => ?_⟩
        cases j with
        | zero => simp at hj; subst hj; simpa using h1
        | succ j => simpa using g2 j i (by simpa using hj)
    obtain ⟨h1, h2⟩ := hl _ _ h
    refine ⟨by simpa using h1, fun j hj => h2 j j (by simp [hj])⟩
  · cases h
theorem cell_inv {a : Addr} {u : Value} (h : W.cell? a = some u) : a.spot = none ∧ ∃ cur e fz, W.heap[a.block]? = some (.cells cur e fz) ∧ cur[a.off]? = some u := by
  unfold World.cell? at h
  split at h
  · rename_i c e fz hc
    split at h
    · cases h
    · rename_i hs
      refine ⟨by simpa using hs, c, e, fz, hc, h⟩
  · cases h
def DataOk (W : World) (L : LabF) (l : List D) (cs : List Value) : Prop := l.length = cs.length ∧ ∀ (j : Nat) y u, l[j]? = some y → cs[j]? = some u → RepP W L y u
theorem DataOk.app {l l' : List D} {cs cs' : List Value} (h : DataOk W L l cs) (h' : DataOk W L l' cs') : DataOk W L (l ++ l') (cs ++ cs') := by
  refine ⟨by simp [h.1, h'.1], fun j y u hy hu => ?_⟩
  by_cases hj : j < l.length
  · rw [List.getElem?_append_left hj] at hy
    rw [List.getElem?_append_left (by rw [← h.1]; exact hj)] at hu
    exact h.2 j y u hy hu
  · rw [List.getElem?_append_right (by omega)] at hy
    rw [List.getElem?_append_right (by rw [← h.1]; omega), ← h.1] at hu
    exact h'.2 _ y u hy hu
theorem fields_data {n fuel : Nat} (ih : ∀ (t : TypeId) (cs : List Value) (x : DataW H × List MemPlace), simpleT P n t = true → DataW.trod enc P W 0 (fun _ => true) true fuel t cs = some x → ∃ l, dataOf P n t x.1 = some l ∧ DataOk W L l cs ∧ cs.length = P.cellsOf t) (cs : List Value) :
    ∀ (fl : List Field) (o e : Nat) {xs : List (DataW H × List MemPlace)}, laidFrom P o fl = some e → (∀ f ∈ fl, simpleT P n f.type = true) → cs.length = e → (fl.mapM fun f => DataW.trod enc P W 0 (fun _ => true) true fuel f.type ((cs.drop f.offset).take (P.cellsOf f.type))) = some xs →
      ∃ l, dataFs P n fl (xs.map (·.1)) = some l ∧ DataOk W L l (cs.drop o)
  | [], o, e, xs, h, _, hl, hx => by
    simp only [laidFrom, Option.some.injEq] at h
    have : xs = [] := by simpa using hx.symm
    subst this
    refine ⟨[], by simp [dataFs], ?_, fun j y u hy => by simp at hy⟩
    simp; omega
  | f :: fl, o, e, xs, h, hs, hl, hx => by
    simp only [laidFrom] at h
    split at h
    · rename_i ho
      rw [List.mapM_cons] at hx
      obtain ⟨y, h1, h2⟩ := bind_some hx
      obtain ⟨t, h3, h4⟩ := bind_some h2
      cases h4
      obtain ⟨l1, k1, k2, k3⟩ := ih _ _ _ (hs f (List.mem_cons_self ..)) h1
      obtain ⟨l2, k4, k5⟩ := fields_data ih cs fl _ e h (fun g hg => hs g (List.mem_cons_of_mem _ hg)) hl h3
      refine ⟨l1 ++ l2, by simp [dataFs, k1, k4], ?_⟩
      have := k2.app k5
      rw [ho, ← List.drop_drop, List.take_append_drop] at this
      exact this
    · cases h
theorem trod_data (hL : ∀ B cur e fz, W.heap[B]? = some (.cells cur e fz) → L B = some .imm) : ∀ (n : Nat) (fuel : Nat) (t : TypeId) (cs : List Value) (x : DataW H × List MemPlace), simpleT P n t = true →
    DataW.trod enc P W 0 (fun _ => true) true fuel t cs = some x → ∃ l, dataOf P n t x.1 = some l ∧ DataOk W L l cs ∧ cs.length = P.cellsOf t := by
  intro n
  induction n with
  | zero => intro fuel t cs x hs; simp [simpleT] at hs
  | succ n ih =>
    intro fuel t cs x hs h
    simp only [simpleT] at hs
    have one : ∀ {y : D} {u : Value}, RepP W L y u → DataOk W L [y] [u] := by
      intro y u hr
      refine ⟨rfl, fun j y' u' h1 h2 => ?_⟩
      cases j with
      | zero => simp at h1 h2; subst h1; subst h2; exact hr
      | succ j => simp at h1
    cases fuel with
    | zero => simp [DataW.trod] at h
    | succ fuel =>
    split at hs
    · rename_i hu
      simp only [beq_iff_eq] at hs
      rw [DataW.trod_step] at h
      unfold DataW.trodStep at h
      rw [hu] at h
      have : ∃ b, cs = [.bool b] ∧ x = (.lit (.bool b), []) := by
        rcases cs with _ | ⟨c, _ | ⟨c2, t⟩⟩
        · simp at h
        · cases c <;> simp at h
          exact ⟨_, rfl, h.symm⟩
        · simp at h
      obtain ⟨b, rfl, rfl⟩ := this
      exact ⟨[.bool b], by simp [dataOf, hu], one .bool, by simp [hs]⟩
    · rename_i k hu
      simp only [beq_iff_eq] at hs
      rw [DataW.trod_step] at h
      unfold DataW.trodStep at h
      rw [hu] at h
      have : ∃ z, cs = [.int k z] ∧ x = (.lit (.int k z), []) := by
        rcases cs with _ | ⟨c, _ | ⟨c2, t⟩⟩
        · simp at h
        · cases c <;> simp at h
          obtain ⟨⟨rfl, _⟩, h⟩ := h
          exact ⟨_, rfl, h.symm⟩
        · simp at h
      obtain ⟨z, rfl, rfl⟩ := this
      exact ⟨[.int k z], by simp [dataOf, hu], one .int, by simp [hs]⟩
    · rename_i hu
      simp only [beq_iff_eq] at hs
      rw [DataW.trod_step] at h
      unfold DataW.trodStep at h
      rw [hu] at h
      have : ∃ z : ByteArray, cs = [.string z] ∧ x = (.lit (.string z.data.toList), []) := by
        rcases cs with _ | ⟨c, _ | ⟨c2, t⟩⟩
        · simp at h
        · cases c <;> simp at h
          exact ⟨_, rfl, h.2.symm⟩
        · simp at h
      obtain ⟨z, rfl, rfl⟩ := this
      refine ⟨[.str z.data.toList], by simp [dataOf, hu], one ?_, by simp [hs]⟩
      exact .str
    · rename_i e hu
      simp only [Bool.and_eq_true, decide_eq_true_eq, beq_iff_eq] at hs
      obtain ⟨⟨hc1, hce⟩, hse⟩ := hs
      rcases Go.Deep.open_slice hu h with ⟨rfl, rfl⟩ | ⟨a, len, cap, m, k, Dd, Pl, rfl, hb, hl, hm, hmm, rfl, hx⟩
      · exact ⟨[.sl (.im true) (P.cellsOf e) []], by simp [dataOf, hu], one .nil, by simp [hc1]⟩
      · have hmc : m = cap := by simpa using hmm
        subst hmc
        have hel : ∀ i, i < m → ∃ cs' l, W.cells? 0 (a.add (i * P.cellsOf e)) (P.cellsOf e) = some cs' ∧ dataOf P n e (Dd i) = some l ∧ DataOk W L l cs' ∧ cs'.length = P.cellsOf e := by
          intro i hi
          obtain ⟨cs', h1, h2⟩ := hx i hi
          obtain ⟨l, k1, k2, k3⟩ := ih k e cs' _ hse h2
          exact ⟨cs', l, h1, k1, k2, k3⟩
        let R : Nat → List D := fun i => (dataOf P n e (Dd i)).getD []
        have hrows : (((List.range len).map Dd).mapM (dataOf P n e)) = some ((List.range len).map R) := by
          have : ∀ (l : List Nat), (∀ i ∈ l, i < m) → ((l.map Dd).mapM (dataOf P n e)) = some (l.map R) := by
            intro l
            induction l with
            | nil => intro _; rfl
            | cons i l ihl =>
              intro hi
              obtain ⟨_, r, _, k1, _⟩ := hel i (hi i (List.mem_cons_self ..))
              rw [List.map_cons, List.mapM_cons, k1]
              show (List.mapM (dataOf P n e) (l.map Dd) >>= fun bs => pure (r :: bs)) = _
              rw [ihl (fun i h => hi i (List.mem_cons_of_mem _ h))]
              simp [R, k1]
          exact this _ (fun i hi => by have := List.mem_range.1 hi; omega)
        refine ⟨[.sl (.im false) (P.cellsOf e) ((List.range len).map R)], by simp [dataOf, hu, hrows], one ?_, by simp [hc1]⟩
        by_cases hl0 : len = 0
        · subst hl0
          exact .plE
        · -- where the cells lie
          obtain ⟨cs0, l0, h1, _, _, _⟩ := hel 0 (by omega)
          obtain ⟨g1, g2⟩ := cells_get h1
          have hc := g2 0 hce
          obtain ⟨u0, hu0⟩ : ∃ u, cs0[0]? = some u := ⟨cs0[0]'(by rw [g1]; exact hce), List.getElem?_eq_getElem _⟩
          rw [hu0] at hc
          obtain ⟨hsp, cur, te, fz, hB, _⟩ := cell_inv hc
          have ha0 : ((a.add (0 * P.cellsOf e)).add 0) = a := by simp [Addr.add]
          rw [ha0] at hsp hB
          obtain ⟨B, o, sp⟩ := a
          simp only at hsp hB
          subst hsp
          have hget : ∀ i c, i < m → c < P.cellsOf e → ∃ cs' l, dataOf P n e (Dd i) = some l ∧ DataOk W L l cs' ∧ cs'.length = P.cellsOf e ∧ cur[o + i * P.cellsOf e + c]? = cs'[c]? := by
            intro i c hi hcc
            obtain ⟨cs', l, q1, q2, q3, q4⟩ := hel i hi
            refine ⟨cs', l, q2, q3, q4, ?_⟩
            have q5 := (cells_get q1).2 c hcc
            obtain ⟨u, hu'⟩ : ∃ u, cs'[c]? = some u := ⟨cs'[c]'(by rw [q4]; exact hcc), List.getElem?_eq_getElem _⟩
            rw [hu'] at q5 ⊢
            obtain ⟨_, cur', te', fz', r1, r2⟩ := cell_inv q5
            rw [add_off, add_off] at r1 r2
            rw [hB] at r1
            cases r1
            exact r2
          have hcell : ∀ i c y, cellOf ((List.range len).map R) i c = some y → i < m ∧ c < P.cellsOf e ∧ ∃ u, cur[o + i * P.cellsOf e + c]? = some u ∧ RepP W L y u := by
            intro i c y hy
            obtain ⟨r, hr, hrc⟩ := cellOf_some.1 hy
            rw [List.getElem?_map] at hr
            obtain ⟨i', hi', rfl⟩ := map_some' hr
            have hil : i < len := by
              have := (List.getElem?_eq_some_iff.1 hi').1
              simpa using this
            have hii : i' = i := by simp [hil] at hi'; exact hi'.symm
            subst hii
            obtain ⟨cs1, l1, t1, t2, t3, t4⟩ := hel i' (by omega)
            have hR : R i' = l1 := by simp [R, t2]
            rw [hR] at hrc
            have hcc : c < P.cellsOf e := by rw [← t4, ← t3.1]; exact (List.getElem?_eq_some_iff.1 hrc).1
            obtain ⟨cs2, l2, s1, s2, s3, s4⟩ := hget i' c (by omega) hcc
            rw [t2] at s1
            cases s1
            obtain ⟨u, hu'⟩ : ∃ u, cs2[c]? = some u := ⟨cs2[c]'(by rw [s3]; exact hcc), List.getElem?_eq_getElem _⟩
            exact ⟨by omega, hcc, u, s4.trans hu', s2.2 c y u hrc hu'⟩
          have hrl : ((List.range len).map R).length = len := by simp
          have := @RepP.pl W L (P.cellsOf e) ((List.range len).map R) B o m cur te fz (fun i c => cur.getD (o + i * P.cellsOf e + c) undef) (by intro h; rw [h] at hrl; simp at hrl; omega) hce (by rw [hrl]; exact hl) (hL B cur te fz hB) hB ?_ ?_ ?_
          · rw [hrl] at this; exact this
          · intro r hr
            obtain ⟨i, hi, rfl⟩ := List.mem_map.1 hr
            have hil := List.mem_range.1 hi
            obtain ⟨cs1, l1, t1, t2, t3, t4⟩ := hel i (by omega)
            have hR : R i = l1 := by simp [R, t2]
            rw [hR, t3.1, t4]
          · intro i c y hy
            obtain ⟨_, _, u, h1, _⟩ := hcell i c y hy
            rw [h1, Array.getD_eq_getD_getElem?, h1]; rfl
          · intro i c y hy
            obtain ⟨_, _, u, h1, h2⟩ := hcell i c y hy
            rw [Array.getD_eq_getD_getElem?, h1]; exact h2
    · rename_i fs hu
      simp only [Bool.and_eq_true, List.all_eq_true, beq_iff_eq] at hs
      rw [DataW.trod_step] at h
      unfold DataW.trodStep at h
      simp only [hu] at h
      split at h
      · rename_i hl
        obtain ⟨xs, h1, h2⟩ := map_some' h
        subst h2
        obtain ⟨l, k1, k2⟩ := fields_data (fun t cs x => ih fuel t cs x) cs fs.toList 0 _ hs.2 hs.1 hl h1
        exact ⟨l, by simp [dataOf, hu, k1], by simpa using k2, hl⟩
      · cases h
    · cases hs
end
end
section
def argV (P : Program) (t : TypeId) (l : List D) : V :=
  match P.underlying t with
  | some (.struct _) => .agg (l.map .d)
  | _ => .one (.d (l.headD .dead))
def argsV {H : Type} (P : Program) (n : Nat) : List TypeId → List (DataW H) → Option (List V)
  | [], [] => some []
  | t :: ts, d :: ds => (dataOf P n t d).bind fun l => (argsV P n ts ds).map (argV P t l :: ·)
  | _, _ => none
def topL (W : World) : LabF := fun B => match W.heap[B]? with | some (.cells ..) => some .imm | _ => none
section
variable {H : Type} {enc : TypeId × Value → H} {P : Program} {W W' : World} {nm : FuncId → Option Nat} {G : Nat → Option Obj} {Cl : Oracle}
theorem topL_imm {B : Nat} {cur : Array Value} {e : TypeId} {fz : Nat × Nat} (h : W.heap[B]? = some (.cells cur e fz)) : topL W B = some .imm := by simp [topL, h]
theorem topL_inv {B : Nat} {l : Lab} (h : topL W B = some l) : l = .imm ∧ ∃ cur e fz, W.heap[B]? = some (.cells cur e fz) := by
  unfold topL at h
  split at h
  · rename_i c e fz hc
    simp only [Option.some.injEq] at h
    exact ⟨h.symm, c, e, fz, hc⟩
  · cases h
theorem arg_rep {n base : Nat} {t : TypeId} {v : Value} {d : DataW H} {ps : List MemPlace} (hval : Value.okWide P W .any base t v) (hs : simpleT P n t = true) (ht : DataW.Trod enc P W 0 (fun _ => true) true t v d ps) :
    ∃ l, dataOf P n t d = some l ∧ ∀ γ k, RepV nm W (topL W) γ k (argV P t l) v := by
  obtain ⟨fuel, h⟩ := ht
  obtain ⟨l, h1, h2, h3⟩ := trod_data (L := topL W) (fun B cur e fz h => topL_imm h) n fuel t _ _ hs h
  refine ⟨l, h1, fun γ k => ?_⟩
  have single : P.cellsOf t = 1 → (∀ cs, v ≠ .agg cs) → (∀ fs, P.underlying t ≠ some (.struct fs)) → RepV nm W (topL W) γ k (argV P t l) v := by
    intro hc hna hns
    have hv : v.cells = #[v] := by cases v <;> first | rfl | exact absurd rfl (hna _)
    have hav : argV P t l = .one (.d (l.headD .dead)) := by
      unfold argV
      split
      · rename_i hx; exact absurd hx (hns _)
      · rfl
    rw [hav]
    have hl : l.length = 1 := by rw [h2.1, h3, hc]
    obtain ⟨y, rfl⟩ := List.length_eq_one_iff.1 hl
    exact .one (.d (.plain (h2.2 0 y v rfl (by rw [hv]; rfl))))
  cases n with
  | zero => simp [simpleT] at hs
  | succ n =>
    simp only [simpleT] at hs
    split at hs
    · rename_i hu
      exact single (by simpa using hs) (by rintro cs rfl; simp [Value.okWide, hu, Cell.okWide, Cell.ok] at hval) (by simp [hu])
    · rename_i hu
      exact single (by simpa using hs) (by rintro cs rfl; simp [Value.okWide, hu, Cell.okWide, Cell.ok] at hval) (by simp [hu])
    · rename_i hu
      exact single (by simpa using hs) (by rintro cs rfl; simp [Value.okWide, hu, Cell.okWide, Cell.ok] at hval) (by simp [hu])
    · rename_i e hu
      simp only [Bool.and_eq_true, beq_iff_eq] at hs
      exact single hs.1.1 (by rintro cs rfl; simp [Value.okWide, hu, Cell.okWide, Cell.ok] at hval) (by simp [hu])
    · rename_i fs hu
      unfold Value.okWide at hval
      rw [hu] at hval
      obtain ⟨cs, rfl, _, _⟩ := hval
      have hav : argV P t l = .agg (l.map .d) := by unfold argV; rw [hu]
      rw [hav]
      have hc : (Value.agg cs).cells.toList = cs.toList := rfl
      rw [hc] at h2
      refine .agg (by rw [List.length_map, h2.1, Array.length_toList]) (fun j c u hj hu' => ?_)
      rw [List.getElem?_map] at hj
      obtain ⟨y, hy, rfl⟩ := map_some' hj
      exact .d (.plain (h2.2 j y u hy (by simpa using hu')))
    · cases hs
theorem args_rep {n base : Nat} : ∀ {ts : List TypeId} {vs : List Value} {ds : List (DataW H)} {ps : List MemPlace}, DataW.TrodAll enc P W 0 (fun _ => true) true ts vs ds ps → (∀ t ∈ ts, simpleT P n t = true) → (∀ (j : Nat) t v, ts[j]? = some t → vs[j]? = some v → Value.okWide P W .any base t v) →
    ∃ l, argsV P n ts ds = some l ∧ l.length = vs.length ∧ ∀ (j : Nat) x v, l[j]? = some x → vs[j]? = some v → ∀ γ k, RepV nm W (topL W) γ k x v
  | [], vs, ds, ps, h, _, _ => by
    cases vs with
    | nil =>
      cases ds with
      | nil => exact ⟨[], rfl, rfl, fun j x v h => by simp at h⟩
      | cons => simp [DataW.TrodAll] at h
    | cons => simp [DataW.TrodAll] at h
  | t :: ts, vs, ds, ps, h, hs, hv => by
    cases vs with
    | nil => simp [DataW.TrodAll] at h
    | cons v vs =>
      cases ds with
      | nil => simp [DataW.TrodAll] at h
      | cons d ds =>
        obtain ⟨p, q, h1, h2, rfl⟩ := h
        obtain ⟨l, k1, k2⟩ := arg_rep (nm := nm) (hv 0 t v rfl rfl) (hs t (List.mem_cons_self ..)) h1
        obtain ⟨ls, k3, k4, k5⟩ := args_rep h2 (fun t ht => hs t (List.mem_cons_of_mem _ ht)) (fun j t v hj hv' => hv (j + 1) t v (by simpa using hj) (by simpa using hv'))
        refine ⟨argV P t l :: ls, by simp [argsV, k1, k3], by simp [k4], ?_⟩
        intro j x u hj hu
        cases j with
        | zero => simp at hj hu; subst hj; subst hu; exact k2
        | succ j => exact k5 j x u (by simpa using hj) (by simpa using hu)
theorem top_rel {l : List V} {args : Array Value} (hl : l.length = args.size) (h : ∀ (j : Nat) x v, l[j]? = some x → args[j]? = some v → ∀ γ k, RepV nm W (topL W) γ k x v) :
    Rel nm l.length (argEnts 0 l ++ boxesEnts 0 []) ⟨args, []⟩ W (topL W) := by
  have hE : ∀ k, (∀ j, k ≠ .s j) → (argEnts 0 l ++ boxesEnts 0 [] : St).E k = V.dead := by
    intro k hk
    have : (argEnts 0 l ++ boxesEnts 0 [] : St).E k = (boxesEnts 0 [] : St).E k := by
      unfold St.E; rw [argEnts_get]
      cases k <;> first | rfl | exact absurd rfl (hk _)
    rw [this, boxes_E]
    cases k with
    | r x => cases x <;> rfl
    | b x c => cases x <;> rfl
    | _ => rfl
  refine ⟨hl.symm, rfl, ?_, ?_, ?_, ?_, ?_, ?_, ?_, ?_⟩
  · intro i
    have hs : (argEnts 0 l ++ boxesEnts 0 [] : St).E (.s i) = if i < l.length then l.getD i V.dead else V.dead := by
      unfold St.E
      rw [argEnts_get]
      simp only [Nat.zero_le, true_and, Nat.zero_add, Nat.sub_zero]
      split
      · rfl
      · rw [boxesEnts_get]; rfl
    rw [hs]
    split
    · rename_i hi
      have hia : i < args.size := by omega
      have := h i (l.getD i V.dead) args[i] (getD_some hi) (by simp [hia]) (argEnts 0 l ++ boxesEnts 0 [] : St).γ (.s i)
      simpa [Array.getD, hia] using this
    · exact .one .dead
  · intro r c x hx hxd
    rw [hE _ (by intro j h; cases h)] at hx
    simp only [V.dead, V.one.injEq] at hx
    exact absurd hx.symm hxd
  · intro r c
    rw [hE _ (by intro j h; cases h)]
    exact ⟨_, rfl⟩
  · intro r c _
    rw [hE _ (by intro j h; cases h)]; rfl
  · intro r _ hr
    rw [hE _ (by intro j h; cases h)] at hr
    simp [V.dead, boxN] at hr
  · intro B l hB
    obtain ⟨_, _, _, h⟩ := (topL_inv hB).2
    exact (Array.getElem?_eq_some_iff.1 h).1
  · intro B B' pl o o' hB
    have := (topL_inv hB).1
    cases this
  · intro B B' r o o' hB
    have := (topL_inv hB).1
    cases this
structure Left (W W' : World) : Prop where
  os : W'.os = W.os
  output : W'.output = W.output
  heap : ∀ B, B < W.heap.size → W'.heap[B]? = W.heap[B]?
theorem law_calls (hO : OSound P nm G Cl) (hGl : ∀ B c, G B = some c → W.heap[B]? = some c ∧ ∃ cur e fz, c = .cells cur e fz) {fid : FuncId} {f0 : Nat} {g : Func} {c : Code} (hnm : nm fid = some f0) (hf : P.funcs[fid]? = some g) (hname : (g.name == "runtime.NumGoroutine") = false) (hb : g.body = some c)
    {n base : Nat} {ts : List TypeId} {args : Array Value} {ds : List (DataW H)} {ps : List MemPlace} (hA : DataW.TrodAll enc P W 0 (fun _ => true) true ts args.toList ds ps)
    (hs : ∀ t ∈ ts, simpleT P n t = true) (hval : ∀ (j : Nat) t v, ts[j]? = some t → args[j]? = some v → Value.okWide P W .any base t v)
    {b : Bool} (heq : ∀ l, argsV P n ts ds = some l → ∃ out, Cl f0 l [] = some (.one (.d (.bool b)), out)) :
    Calls P fid args W fun e W' => e = .returned (.bool b) ∧ Left W W' := by
  obtain ⟨l, h1, h2, h3⟩ := args_rep (nm := nm) hA hs (fun j t v hj hv => hval j t v hj (by simpa using hv))
  obtain ⟨out, h4⟩ := heq l h1
  have R := top_rel (W := W) (nm := nm) (l := l) (args := args) (by rw [h2]; simp) (fun j x v hj hv => h3 j x v hj (by simpa using hv))
  have hF := hO h4 hnm R (fun B q o hB => by have := (topL_inv hB).1; cases this) (fun B c hB => by obtain ⟨h1, cur, e, fz, rfl⟩ := hGl B c hB; exact ⟨topL_imm h1, h1⟩) (fun B i o hB => by have := (topL_inv hB).1; cases this)
  have hname' : ¬ g.name = "runtime.NumGoroutine" := by simpa using hname
  have hrun : (callFunc fid args).run P W = .ok (.enter fid args) W := by simp [callFunc, hf, hname', hb]
  unfold FnTo at hF
  rw [hrun] at hF
  refine Calls.mono hF ?_
  rintro e W' ⟨v, rfl, L', hm, _, hv⟩
  have hvb : v = .bool b := hv.one_inv.bool_inv
  subst hvb
  refine ⟨rfl, hm.os, hm.output, fun B hB => ?_⟩
  cases hL : topL W B with
  | none => exact (hm.none B hB hL).2
  | some l =>
    obtain ⟨rfl, _⟩ := topL_inv hL
    exact (hm.imm B hL).2
theorem trodAll_keep {n : Nat} {sp2 : Nat → Bool} (hold : ∀ B, B < W.heap.size → W'.heap[B]? = W.heap[B]?) (hsp : ∀ b, b < W.heap.size → sp2 b = true) : ∀ {ts : List TypeId} {vs : List Value} {ds : List (DataW H)} {ps : List MemPlace},
    (∀ t ∈ ts, simpleT P n t = true) → DataW.TrodAll enc P W 0 (fun _ => true) true ts vs ds ps → DataW.TrodAll enc P W' 0 sp2 true ts vs ds ps
  | [], vs, ds, ps, _, h => by
    cases vs <;> cases ds <;> simp_all [DataW.TrodAll]
  | t :: ts, vs, ds, ps, hs, h => by
    cases vs with
    | nil => simp [DataW.TrodAll] at h
    | cons v vs =>
      cases ds with
      | nil => simp [DataW.TrodAll] at h
      | cons d ds =>
        obtain ⟨p, q, ⟨fuel, h1⟩, h2, rfl⟩ := h
        obtain ⟨m, h3⟩ := trod_keep hold hsp n t fuel _ _ (hs t (List.mem_cons_self ..)) h1
        exact ⟨p, q, ⟨m, h3⟩, trodAll_keep hold hsp (fun t ht => hs t (List.mem_cons_of_mem _ ht)) h2, rfl⟩
theorem law_post {f : Func} {s : ChangeSpec} {apart fresh handsOn again : Bool} {args : Array Value} {ds gs : List (DataW H)} {before : List MemPlace} {n : Nat} {b : Bool} {tb : TypeId}
    (hW : DataW.Whole enc P f.params.toList s.vars apart W args.toList ds gs before) (hvars : s.vars = []) (hs : ∀ t ∈ f.params.toList, simpleT P n t = true)
    (hr : f.resultTypes = #[tb]) (htb : P.underlying tb = some .bool) (hres : (s.fn H (ds ++ gs)).results = [.lit (.bool b)]) (hargs : (s.fn H (ds ++ gs)).args = ds) (hgv : (s.fn H (ds ++ gs)).vars = [])
    (hl : Left W W') : s.post enc P f apart fresh handsOn again W args (.bool b) W' := by
  have hW0 := hW
  obtain ⟨p, q, hA, hV, rfl, hz, hn⟩ := hW
  rw [hvars] at hV
  have hq : q = [] ∧ gs = [] := by
    cases gs with
    | nil => exact ⟨by simpa [DataW.TrodVars] using hV, rfl⟩
    | cons => simp [DataW.TrodVars] at hV
  obtain ⟨rfl, rfl⟩ := hq
  have hlt : ∀ p' ∈ p ++ [], p'.block < W.heap.size := fun p' hp => hW0.lt p' hp
  have keepF := fun (sp2 : Nat → Bool) (hsp : ∀ b, b < W.heap.size → sp2 b = true) => trodAll_keep (sp2 := sp2) hl.heap hsp hs hA
  have resT : ∀ (bb : Nat) (sp : Nat → Bool) (hd : Bool), DataW.TrodAll enc P W' bb sp hd f.resultTypes.toList ((Value.bool b).resultList f.resultTypes.size) [.lit (.bool b)] [] := by
    intro bb sp hd
    rw [hr]
    exact ⟨[], [], ⟨1, by simp [DataW.trod, Value.cells, htb]⟩, rfl, rfl⟩
  have hv0 : ∀ sp, DataW.TrodVars enc P W' sp s.vars (s.fn H (ds ++ [])).vars [] := by
    intro sp; rw [hvars, hgv]; rfl
  refine ⟨ds, [], p ++ [], [], p, [], hW0, ?_, ?_, hv0 _, ?_, fun _ => ⟨?_, ?_⟩⟩
  · rw [hres]; exact resT _ _ _
  · rw [hargs]; exact keepF _ (fun b hb => by simpa using hb)
  · refine ⟨hl.os, hl.output, fun i hi => ?_⟩
    rw [hl.heap i hi]
    split
    · rename_i h1 h2; rw [h1] at h2; cases h2; exact ⟨rfl, rfl, rfl, fun _ _ => rfl⟩
    · rename_i h1 h2; rw [h1] at h2; cases h2; exact .inr ⟨rfl, rfl⟩
    · rfl
  · intro j t r h1 h2
    rw [hr] at h1 h2
    cases j with
    | zero =>
      simp [Value.resultList] at h1 h2
      subst h1; subst h2
      simp [Value.okWide, htb, Cell.okWide, Cell.ok]
    | succ j => simp [Value.resultList] at h2
  · have hAll := Go.ChangeShapes.trodAll_append (keepF (fun _ => true) (fun _ _ => rfl)) (resT 0 (fun _ => true) true)
    refine ⟨_, [], _, ⟨_, [], hAll, (by rw [hvars]; rfl), rfl, ?_, ?_⟩, ?_⟩
    · intro b' off hp
      have hmem : MemPlace.cell b' off ∈ p ++ [] := by simpa using hp
      have hfz := hz b' off hmem
      have hb := hlt _ hmem
      have hb' : b' < W.heap.size := hb
      unfold World.frozen? at hfz ⊢
      simp only at hfz ⊢
      rw [hl.heap b' hb']
      exact hfz
    · intro ha
      have := hn ha
      simpa using this
    · intro p' hp _
      simpa using hp
end
end
section
inductive TS where
  | int (k : IntKind)
  | bool
  | str
  | sl (sz : Nat) (l : List TS)
mutual
def okD : TS → D → Prop
  | .int k, .int k' n => k' = k ∧ (Lit.int k n).wf = true
  | .bool, .bool _ => True
  | .str, .str _ => True
  | .sl sz ts, .sl (.im b) sz' rows => sz' = sz ∧ (b = true → rows = []) ∧ ∀ r ∈ rows, okR ts r
  | _, _ => False
def okR : List TS → List D → Prop
  | [], [] => True
  | t :: ts, x :: r => okD t x ∧ okR ts r
  | _, _ => False
end
theorem okR_append : ∀ {ts us : List TS} {r q : List D}, okR ts r → okR us q → okR (ts ++ us) (r ++ q)
  | [], us, [], q, _, h => h
  | t :: ts, us, x :: r, q, h, h' => by
    simp only [okR, List.cons_append] at h ⊢
    exact ⟨h.1, okR_append h.2 h'⟩
  | [], _, _ :: _, _, h, _ => absurd h (by simp [okR])
  | _ :: _, _, [], _, h, _ => absurd h (by simp [okR])
def tsFs (f : TypeId → Option (List TS)) : List Field → Option (List TS)
  | [] => some []
  | x :: t => (f x.type).bind fun a => (tsFs f t).map (a ++ ·)
def tsOf (P : Program) : Nat → TypeId → Option (List TS)
  | 0, _ => none
  | n + 1, t => match P.underlying t with
    | some .bool => some [.bool]
    | some (.int k) => some [.int k]
    | some .string => some [.str]
    | some (.slice e) => (tsOf P n e).map fun l => [.sl (P.cellsOf e) l]
    | some (.struct fs) => tsFs (tsOf P n) fs.toList
    | _ => none
section
variable {H : Type} {enc : TypeId × Value → H} {P : Program} {W : World}
theorem ok_fields {n fuel : Nat} {cs : List Value} (ih : ∀ (t : TypeId) (cs : List Value) (x : DataW H × List MemPlace) l ts, DataW.trod enc P W 0 (fun _ => true) true fuel t cs = some x → dataOf P n t x.1 = some l → tsOf P n t = some ts → okR ts l) :
    ∀ (fl : List Field) {xs : List (DataW H × List MemPlace)} {l : List D} {ts : List TS}, (fl.mapM fun f => DataW.trod enc P W 0 (fun _ => true) true fuel f.type ((cs.drop f.offset).take (P.cellsOf f.type))) = some xs →
      dataFs P n fl (xs.map (·.1)) = some l → tsFs (tsOf P n) fl = some ts → okR ts l
  | [], xs, l, ts, hx, hl, ht => by
    have : xs = [] := by simpa using hx.symm
    subst this
    simp [dataFs] at hl
    simp [tsFs] at ht
    subst hl; subst ht
    trivial
  | f :: fl, xs, l, ts, hx, hl, ht => by
    rw [List.mapM_cons] at hx
    obtain ⟨y, h1, h2⟩ := bind_some hx
    obtain ⟨t, h3, h4⟩ := bind_some h2
    cases h4
    simp only [List.map_cons, dataFs] at hl
    obtain ⟨l1, k1, k2⟩ := bind_some hl
    obtain ⟨l2, k3, rfl⟩ := map_some' k2
    simp only [tsFs] at ht
    obtain ⟨t1, j1, j2⟩ := bind_some ht
    obtain ⟨t2, j3, rfl⟩ := map_some' j2
    exact okR_append (ih _ _ _ _ _ h1 k1 j1) (ok_fields ih fl h3 k3 j3)
theorem mapM_mem {α β : Type} {f : α → Option β} : ∀ {l : List α} {r : List β}, l.mapM f = some r → ∀ y ∈ r, ∃ x ∈ l, f x = some y
  | [], r, h, y, hy => by
    have : r = [] := by simpa using h.symm
    subst this; cases hy
  | x :: t, r, h, y, hy => by
    rw [List.mapM_cons] at h
    obtain ⟨a, h1, h2⟩ := bind_some h
    obtain ⟨b, h3, h4⟩ := bind_some h2
    cases h4
    rcases List.mem_cons.1 hy with rfl | hy
    · exact ⟨x, List.mem_cons_self .., h1⟩
    · obtain ⟨z, hz, hf⟩ := mapM_mem h3 y hy
      exact ⟨z, List.mem_cons_of_mem _ hz, hf⟩
theorem ok_data : ∀ (n fuel : Nat) (t : TypeId) (cs : List Value) (x : DataW H × List MemPlace) (l : List D) (ts : List TS),
    DataW.trod enc P W 0 (fun _ => true) true fuel t cs = some x → dataOf P n t x.1 = some l → tsOf P n t = some ts → okR ts l := by
  intro n
  induction n with
  | zero => intro fuel t cs x l ts _ h; simp [dataOf] at h
  | succ n ih =>
    intro fuel t cs x l ts h hd ht
    cases fuel with
    | zero => simp [DataW.trod] at h
    | succ fuel =>
    simp only [tsOf] at ht
    split at ht
    · rename_i hu
      cases ht
      rw [DataW.trod_step] at h
      unfold DataW.trodStep at h
      rw [hu] at h
      have : ∃ b, cs = [.bool b] ∧ x = (.lit (.bool b), []) := by
        rcases cs with _ | ⟨c, _ | ⟨c2, t⟩⟩
        · simp at h
        · cases c <;> simp at h
          exact ⟨_, rfl, h.symm⟩
        · simp at h
      obtain ⟨b, rfl, rfl⟩ := this
      simp [dataOf, hu] at hd
      subst hd
      exact ⟨trivial, trivial⟩
    · rename_i k hu
      cases ht
      rw [DataW.trod_step] at h
      unfold DataW.trodStep at h
      rw [hu] at h
      have : ∃ z, cs = [.int k z] ∧ (Lit.int k z).wf = true ∧ x = (.lit (.int k z), []) := by
        rcases cs with _ | ⟨c, _ | ⟨c2, t⟩⟩
        · simp at h
        · cases c <;> simp at h
          obtain ⟨⟨rfl, hw⟩, h⟩ := h
          exact ⟨_, rfl, hw, h.symm⟩
        · simp at h
      obtain ⟨z, rfl, hw, rfl⟩ := this
      simp [dataOf, hu] at hd
      subst hd
      exact ⟨⟨rfl, hw⟩, trivial⟩
    · rename_i hu
      cases ht
      rw [DataW.trod_step] at h
      unfold DataW.trodStep at h
      rw [hu] at h
      have : ∃ z : ByteArray, cs = [.string z] ∧ x = (.lit (.string z.data.toList), []) := by
        rcases cs with _ | ⟨c, _ | ⟨c2, t⟩⟩
        · simp at h
        · cases c <;> simp at h
          exact ⟨_, rfl, h.2.symm⟩
        · simp at h
      obtain ⟨z, rfl, rfl⟩ := this
      simp [dataOf, hu] at hd
      subst hd
      exact ⟨trivial, trivial⟩
    · rename_i e hu
      obtain ⟨te, he, rfl⟩ := map_some' ht
      rcases Go.Deep.open_slice hu h with ⟨rfl, rfl⟩ | ⟨a, len, cap, m, k, Dd, Pl, rfl, hb, hl, hm, hmm, rfl, hx⟩
      · simp [dataOf, hu] at hd
        subst hd
        exact ⟨⟨rfl, fun _ => rfl, fun r hr => by cases hr⟩, trivial⟩
      · have hmc : m = cap := by simpa using hmm
        subst hmc
        unfold dataOf at hd
        rw [hu] at hd
        simp only at hd
        obtain ⟨rows, h1, rfl⟩ := map_some' hd
        refine ⟨⟨rfl, fun hb => (by cases hb), fun r hr => ?_⟩, trivial⟩
        obtain ⟨d, hd', hf⟩ := mapM_mem h1 r hr
        obtain ⟨i, hi, rfl⟩ := List.mem_map.1 hd'
        have hil := List.mem_range.1 hi
        obtain ⟨cs', _, h2⟩ := hx i (by omega)
        exact ih k e cs' _ _ _ h2 hf he
    · rename_i fs hu
      rw [DataW.trod_step] at h
      unfold DataW.trodStep at h
      rw [hu] at h
      simp only at h
      split at h
      · obtain ⟨xs, h1, rfl⟩ := map_some' h
        unfold dataOf at hd
        rw [hu] at hd
        simp only at hd
        exact ok_fields (fun t cs x l ts h1 h2 h3 => ih fuel t cs x l ts h1 h2 h3) fs.toList h1 hd ht
      · cases h
    · cases ht
def okRs : List (List TS) → List (List D) → Prop
  | [], [] => True
  | ts :: t, r :: l => okR ts r ∧ okRs t l
  | _, _ => False
def argVs (P : Program) : List TypeId → List (List D) → List V
  | t :: ts, r :: rs => argV P t r :: argVs P ts rs
  | _, _ => []
def tsAll (P : Program) (n : Nat) : List TypeId → Option (List (List TS))
  | [] => some []
  | t :: ts => (tsOf P n t).bind fun a => (tsAll P n ts).map (a :: ·)
def dataAll {H : Type} (P : Program) (n : Nat) : List TypeId → List (DataW H) → Option (List (List D))
  | [], [] => some []
  | t :: ts, d :: ds => (dataOf P n t d).bind fun l => (dataAll P n ts ds).map (l :: ·)
  | _, _ => none
theorem ok_args {n : Nat} : ∀ {ts : List TypeId} {vs : List Value} {ds : List (DataW H)} {ps : List MemPlace} {l : List V} {tt : List (List TS)}, DataW.TrodAll enc P W 0 (fun _ => true) true ts vs ds ps → argsV P n ts ds = some l → tsAll P n ts = some tt →
    ∃ rs, dataAll P n ts ds = some rs ∧ okRs tt rs ∧ l = argVs P ts rs
  | [], vs, ds, ps, l, tt, h, hl, ht => by
    cases vs <;> cases ds <;> simp_all [DataW.TrodAll, argsV, tsAll]
    subst hl; subst ht
    exact ⟨[], rfl, trivial, rfl⟩
  | t :: ts, vs, ds, ps, l, tt, h, hl, ht => by
    cases vs with
    | nil => simp [DataW.TrodAll] at h
    | cons v vs =>
      cases ds with
      | nil => simp [DataW.TrodAll] at h
      | cons d ds =>
        obtain ⟨p, q, ⟨fuel, h1⟩, h2, rfl⟩ := h
        simp only [argsV] at hl
        obtain ⟨r, k1, k2⟩ := bind_some hl
        obtain ⟨l2, k3, rfl⟩ := map_some' k2
        simp only [tsAll] at ht
        obtain ⟨t1, j1, j2⟩ := bind_some ht
        obtain ⟨t2, j3, rfl⟩ := map_some' j2
        have ho := ok_data n fuel t _ _ _ _ h1 k1 j1
        obtain ⟨rs, g1, g2, rfl⟩ := ok_args h2 k3 j3
        exact ⟨r :: rs, by simp [dataAll, k1, g1], ⟨ho, g2⟩, rfl⟩
theorem law_calls' {nm : FuncId → Option Nat} {G : Nat → Option Obj} {Cl : Nat → Oracle} (hO : ∀ N, OSound P nm G (Cl N)) (hGl : ∀ B c, G B = some c → W.heap[B]? = some c ∧ ∃ cur e fz, c = .cells cur e fz) {fid : FuncId} {f0 : Nat} {g : Func} {c : Code} (hnm : nm fid = some f0) (hf : P.funcs[fid]? = some g) (hname : (g.name == "runtime.NumGoroutine") = false) (hb : g.body = some c)
    {n base : Nat} {ts : List TypeId} {tt : List (List TS)} {args : Array Value} {ds : List (DataW H)} {ps : List MemPlace} (hA : DataW.TrodAll enc P W 0 (fun _ => true) true ts args.toList ds ps)
    (hs : ∀ t ∈ ts, simpleT P n t = true) (htt : tsAll P n ts = some tt) (hval : ∀ (j : Nat) t v, ts[j]? = some t → args[j]? = some v → Value.okWide P W .any base t v)
    {b : Bool} (heq : ∀ rs, dataAll P n ts ds = some rs → okRs tt rs → ∃ N out, Cl N f0 (argVs P ts rs) [] = some (.one (.d (.bool b)), out)) :
    Calls P fid args W fun e W' => e = .returned (.bool b) ∧ Left W W' := by
  obtain ⟨l, h1, _⟩ := args_rep (nm := nm) hA hs (fun j t v hj hv => hval j t v hj (by simpa using hv))
  obtain ⟨rs, h2, h3, rfl⟩ := ok_args hA h1 htt
  obtain ⟨N, out, h4⟩ := heq rs h2 h3
  refine law_calls (hO N) hGl hnm hf hname hb hA hs hval (fun l' hl' => ?_)
  rw [h1] at hl'
  cases hl'
  exact ⟨out, h4⟩
end
end
section
theorem natI_eq (n : Nat) : natI n = (n : Int) := rfl
theorem asI_nat (n : Nat) : asI (n : Int) = some n := by simp [asI]
theorem asI_of {x : Int} (h : 0 ≤ x) : asI x = some x.toNat := by simp [asI, h]
theorem wrap_i64 {x : Int} (h : -9223372036854775808 ≤ x) (h' : x ≤ 9223372036854775807) : IntKind.wrap .i64 x = x := by
  simp [IntKind.wrap, IntKind.signed, IntKind.bits]; omega
section
variable (T : Nat → Option IFunc) (prim : Oracle)
def FTo (f : Nat) (vs : List V) (bs : List (List C)) (r : V × List (List C)) : Prop := ∃ N, ∀ n, N ≤ n → evN T prim n f vs bs = some r
theorem FTo.of {T : Nat → Option IFunc} {prim : Oracle} {f : Nat} {k : KFunc} {an : Ann} {vs : List V} {bs : List (List C)} {r : V × List (List C)} (hT : T f = some k.fn)
    (h : ∃ N, ∀ n, N ≤ n → evBodyA an (evN T prim n) n k vs bs = some r) : FTo T prim f vs bs r := by
  obtain ⟨N, h⟩ := h
  refine ⟨N + 1, fun n hn => ?_⟩
  cases n with
  | zero => omega
  | succ n =>
    show (match T f with | some fn => evBody (evN T prim n) n fn vs bs | none => prim f vs bs) = some r
    rw [hT]
    exact evBodyA_inv (h n (by omega))
end
end
section
section
variable {nm : FuncId → Option Nat} {N : Nat} {S : St} {a : Act} {w : World} {L : LabF}
theorem Rel.bldTouch (h : Rel nm N S a w L) {r : Root} {t : TypeId} {B : Nat} (hr : r.isG = false) (hE : S.E (.b r 0) = .one (.bld t)) (hB : L B = some (.box r 0)) :
    Rel nm N S a (w.setCell ⟨B, 0, none⟩ (.pointer (some ⟨B, 0, none⟩))) L ∧ Mono w (w.setCell ⟨B, 0, none⟩ (.pointer (some ⟨B, 0, none⟩))) L L := by
  have hne : ∀ {B2 l}, L B2 = some l → (∀ r o, l ≠ .box r o) → (w.setCell ⟨B, 0, none⟩ (.pointer (some ⟨B, 0, none⟩))).heap[B2]? = w.heap[B2]? := by
    intro B2 l hl hnb
    refine heap_setCell_ne _ _ _ _ ?_
    rintro rfl
    rw [hB] at hl
    simp only [Option.some.injEq] at hl
    exact hnb _ _ hl.symm
  have hst : Step w (w.setCell ⟨B, 0, none⟩ (.pointer (some ⟨B, 0, none⟩))) L L S.γ S.γ :=
    ⟨fun B hB => ⟨hB, hne hB (by simp)⟩, fun _ => Nat.le_refl _, fun B q o hq _ hL => ⟨hL, fun cur e fz hB => ⟨cur, (hne hL (by simp)).trans hB, rfl⟩⟩,
      fun B q o _ _ _ hB => hne hB (by simp), fun B r o _ hB => hB⟩
  have hslot : ∀ i, RepV nm (w.setCell ⟨B, 0, none⟩ (.pointer (some ⟨B, 0, none⟩))) L S.γ (.s i) (S.E (.s i)) (a.tmps.getD i undef) := fun i =>
    (h.slot i).step hst (fun B q o hq hB => by rw [← hq, Place.at_self]; exact ⟨hB, hne hB (by simp)⟩)
  obtain ⟨B0, o0, cur0, e0, fz0, v0, g1, g2, g3, g4, g5, g6⟩ : ∃ B o cur e fz v, L B = some (.box r o) ∧ w.heap[B]? = some (.cells cur e fz) ∧ unfroz cur.size fz ∧ cur[o + 0]? = some v ∧ RepC nm w L S.γ (.b r 0) 0 (.bld t) v ∧ BldOk (.bld t) B o 0 e cur.size v := by
    have := h.cell r 0 _ hE (by simp)
    cases r with
    | g i => cases hr
    | e i => exact this
    | l i => exact this
  obtain rfl := h.boxInj B0 B r o0 0 g1 hB
  obtain ⟨rfl, _, rfl, hn, hv⟩ := g6
  refine ⟨⟨h.size, h.defers, hslot, ?_, h.bone, h.bound, ?_, ?_, h.rowInj, h.boxInj⟩, ⟨rfl, rfl, rfl, by simp, fun B hB => ⟨hB, hne hB (by simp)⟩, ?_, fun _ _ _ hB => hB⟩⟩
  · intro r2 c x hx hxd
    by_cases he : r2 = r ∧ c = 0
    · obtain ⟨rfl, rfl⟩ := he
      rw [hE] at hx
      simp only [V.one.injEq] at hx
      subst hx
      have hex : ∃ B o cur e fz v, L B = some (.box r2 o) ∧ (w.setCell ⟨B0, 0, none⟩ (.pointer (some ⟨B0, 0, none⟩))).heap[B]? = some (.cells cur e fz) ∧ unfroz cur.size fz ∧ cur[o + 0]? = some v ∧
          RepC nm (w.setCell ⟨B0, 0, none⟩ (.pointer (some ⟨B0, 0, none⟩))) L S.γ (.b r2 0) 0 (.bld e0) v ∧ BldOk (.bld e0) B o 0 e cur.size v := by
        refine ⟨B0, 0, _, e0, fz0, .pointer (some ⟨B0, 0, none⟩), hB, heap_setCell_eq w B0 0 _ g2, by simpa using g3, ?_, .bld ⟨_, _, rfl⟩ rfl, rfl, rfl, rfl, by simpa using hn, .inr rfl⟩
        simp only [Array.getElem?_setIfInBounds, if_true]
        rw [if_pos (by omega)]
      cases r2 with
      | g i => cases hr
      | e i => exact hex
      | l i => exact hex
    · refine (h.cell r2 c x hx hxd).step hst (fun B q o _ hB => ⟨hB, hne hB (by simp)⟩) ?_
      intro B2 o2 hB2
      refine ⟨hB2, fun cur e fz hc => ?_⟩
      by_cases hb : B2 = B0
      · subst hb
        rw [hB] at hB2
        simp only [Option.some.injEq, Lab.box.injEq] at hB2
        obtain ⟨rfl, rfl⟩ := hB2
        refine ⟨cur.setIfInBounds 0 _, heap_setCell_eq w B2 0 _ hc, by simp, ?_⟩
        rw [Array.getElem?_setIfInBounds_ne]
        intro e; exact he ⟨rfl, by omega⟩
      · exact ⟨cur, (heap_setCell_ne _ _ _ _ hb).trans hc, rfl, rfl⟩
  · intro r2 hg2 hr2
    obtain ⟨B2, o2, cur, e, fz, k1, k2, k3, k4⟩ := h.room r2 hg2 hr2
    by_cases hb : B2 = B0
    · subst hb
      exact ⟨B2, o2, _, e, fz, k1, heap_setCell_eq w B2 0 _ k2, by simpa using k3, by simpa using k4⟩
    · exact ⟨B2, o2, cur, e, fz, k1, (heap_setCell_ne _ _ _ _ hb).trans k2, k3, k4⟩
  · intro B2 l hl
    have := h.dom B2 l hl
    simpa using this
  · intro B2 _ hn2
    refine ⟨hn2, heap_setCell_ne _ _ _ _ ?_⟩
    rintro rfl
    rw [hB] at hn2; cases hn2
theorem Rel.dropArgs {vs : List V} {bs : List (List C)} (h : Rel nm N (argEnts 0 vs ++ boxesEnts 0 bs) a w L) : Rel nm 0 (boxesEnts 0 bs) ⟨#[], []⟩ w L := by
  have hγ : (argEnts 0 vs ++ boxesEnts 0 bs : St).γ = (boxesEnts 0 bs : St).γ := by rw [entry_γ, boxes_γ]
  have hE : ∀ k, (∀ i, k ≠ .s i) → (argEnts 0 vs ++ boxesEnts 0 bs : St).E k = (boxesEnts 0 bs : St).E k := by
    intro k hk
    unfold St.E
    rw [argEnts_get]
    cases k with
    | s i => exact absurd rfl (hk i)
    | _ => rfl
  refine ⟨rfl, rfl, ?_, ?_, ?_, ?_, ?_, h.dom, h.rowInj, h.boxInj⟩
  · intro i
    rw [boxes_E]
    exact .one .dead
  · intro r c x hx hd
    rw [← hE _ (by intro i e; cases e)] at hx
    rw [← hγ]
    exact h.cell r c x hx hd
  · intro r c
    rw [← hE _ (by intro i e; cases e)]
    exact h.bone r c
  · intro r c hc
    rw [← hE _ (by intro i e; cases e)] at hc ⊢
    exact h.bound r c hc
  · intro r hg hr
    rw [← hE _ (by intro i e; cases e)] at hr ⊢
    exact h.room r hg hr
theorem FnTo.eq {P : Program} {fid : FuncId} {args : Array Value} {w : World} {R : Value → World → Prop} {v0 : Value} {w0 : World} (h : FnTo P fid args w fun v w' => v = v0 ∧ w' = w0) (hr : R v0 w0) : FnTo P fid args w R :=
  h.mono (fun v w' ⟨h1, h2⟩ => by rw [h1, h2]; exact hr)
theorem copyCheck_ok {P : Program} {fid : FuncId} {t : TypeId} {x : C}
    (hfresh : ∀ (b : Nat) (w : World), w.cell? ⟨b, 0, none⟩ = some (.pointer none) → w.shape? b = some (t, 2) → w.frozen? ⟨b, 0, none⟩ = false →
      FnTo P fid #[.pointer (some ⟨b, 0, none⟩)] w fun v w' => v = .tuple #[] ∧ w' = w.setCell ⟨b, 0, none⟩ (.pointer (some ⟨b, 0, none⟩)))
    (hused : ∀ (b : Nat) (w : World), w.cell? ⟨b, 0, none⟩ = some (.pointer (some ⟨b, 0, none⟩)) → FnTo P fid #[.pointer (some ⟨b, 0, none⟩)] w fun v w' => v = .tuple #[] ∧ w' = w)
    {args : Array Value} (R : Rel nm 1 (argEnts 0 [.one (.ptr (.e 0) 0 0)] ++ boxesEnts 0 [[.bld t, x]]) ⟨args, []⟩ w L) :
    FnTo P fid args w fun v w' => ∃ L', Mono w w' L L' ∧ Rel nm 0 (boxesEnts 0 [[.bld t, x]]) ⟨#[], []⟩ w' L' ∧ RepV nm w' L' (fun _ => 0) (.h 0) (.tup []) v := by
  have hγ := entry_γ [V.one (.ptr (.e 0) 0 0)] [[.bld t, x]]
  have hE0 : (argEnts 0 [V.one (.ptr (.e 0) 0 0)] ++ boxesEnts 0 [[.bld t, x]] : St).E (.b (.e 0) 0) = .one (.bld t) := rfl
  have h0 := R.slot 0
  have hs0 : (argEnts 0 [V.one (.ptr (.e 0) 0 0)] ++ boxesEnts 0 [[.bld t, x]] : St).E (.s 0) = .one (.ptr (.e 0) 0 0) := rfl
  rw [hs0] at h0
  have hsz : args.size = 1 := R.size
  generalize hv : (⟨args, []⟩ : Act).tmps.getD 0 undef = v0 at h0
  have hargs : args = #[v0] := by
    apply Array.ext
    · simpa using hsz
    · intro i h1 h2
      have : i = 0 := by omega
      subst this
      rw [← hv]
      simp [Array.getD, hsz]
  cases h0 with
  | one h0 =>
    cases h0 with
    | ptr hv0 hg hp =>
      obtain ⟨B, o, hB, rfl⟩ := hp (by rw [hγ])
      have hc := R.cell (.e 0) 0 _ hE0 (by simp)
      obtain ⟨B', o', cur, e, fz, v, k1, k2, k3, k4, k5, k6⟩ := hc
      obtain rfl := R.boxInj B' B (.e 0) o' o k1 hB
      obtain ⟨rfl, _, rfl, hn, hvv⟩ := k6
      obtain rfl : o = 0 := by rw [k1] at hB; simpa using hB.symm
      simp only [Nat.add_zero] at k4 hargs
      have hcell : w.cell? ⟨B', 0, none⟩ = some v := by rw [cell?_of k2]; exact k4
      rcases hvv with rfl | rfl
      · obtain ⟨R2, M2⟩ := R.bldTouch rfl hE0 hB
        rw [hargs]
        refine (hfresh B' w hcell (by simp [World.shape?, k2, hn]) ?_).eq ⟨L, M2, R2.dropArgs, .tup rfl rfl (by simp)⟩
        have := k3 0 (by omega)
        simp only [World.frozen?, k2]
        simpa using this
      · rw [hargs]
        exact (hused B' w hcell).eq ⟨L, Mono.refl w L, R.dropArgs, .tup rfl rfl (by simp)⟩
theorem Rel.below {w' : World} (h : Rel nm N S a w L) (hb : RowKit.Below w.heap.size w w') : Rel nm N S a w' L ∧ Mono w w' L L := by
  have hlt : ∀ {B l}, L B = some l → B < w.heap.size := by
    intro B l hl
    exact h.dom B l hl
  exact ⟨h.grown (fun B l hl => hb.block B (hlt hl)), hb.os, hb.tape, hb.output, hb.size, fun B hB => ⟨hB, hb.block B (hlt hB)⟩, fun B hl hn => ⟨hn, hb.block B hl⟩, fun _ _ _ hB => hB⟩
def flatVal : D → Value
  | .int k n => .int k n
  | .bool b => .bool b
  | .str s => .string ⟨s.toArray⟩
  | _ => undef
theorem args_flat {xs : List D} {bs : List (List C)} {args : Array Value} (hf : xs.all D.flat = true) (R : Rel nm (xs.map fun x => V.one (.d x)).length (argEnts 0 (xs.map fun x => V.one (.d x)) ++ boxesEnts 0 bs) ⟨args, []⟩ w L) :
    args = (xs.map flatVal).toArray := by
  have hsz : args.size = xs.length := by have := R.size; simpa using this
  apply Array.ext
  · simpa using hsz
  · intro i h1 h2
    have hi : i < xs.length := by omega
    have h0 := R.slot i
    have hE : (argEnts 0 (xs.map fun x => V.one (.d x)) ++ boxesEnts 0 bs : St).E (.s i) = .one (.d xs[i]) := by
      unfold St.E
      rw [argEnts_get]
      simp only [Nat.zero_le, true_and, Nat.zero_add, List.length_map, hi, if_true, Nat.sub_zero]
      simp [List.getD, hi]
    rw [hE] at h0
    have hv : (⟨args, []⟩ : Act).tmps.getD i undef = args[i] := by simp [Array.getD, h1]
    rw [hv] at h0
    have hx : (xs[i]).flat = true := List.all_eq_true.1 hf _ (List.getElem_mem hi)
    simp only [List.getElem_toArray, List.getElem_map]
    generalize xs[i] = x at h0 hx
    generalize args[i] = v at h0
    cases h0 with
    | one h0 =>
      cases h0 with
      | d h0 =>
        have := RepC.flatD (nm := nm) (γ := fun _ => 0) (w := w) (L := L) (.d h0) hx
        cases this <;> first | rfl | simp [D.flat] at hx
theorem fnTo_calls {P : Program} {fid : FuncId} {args : Array Value} {g : Func} {c : Code} {R : Value → World → Prop} (hf : P.funcs[fid]? = some g) (hname : (g.name == "runtime.NumGoroutine") = false) (hb : g.body = some c)
    (h : Calls P fid args w fun e w' => ∃ v, e = .returned v ∧ R v w') : FnTo P fid args w R := by
  have hname' : ¬ g.name = "runtime.NumGoroutine" := by simpa using hname
  have hrun : (callFunc fid args).run P w = .ok (.enter fid args) w := by simp [callFunc, hf, hname', hb]
  unfold FnTo
  rw [hrun]
  exact h
theorem data_ok {P : Program} {fid : FuncId} {vs : List V} {bs : List (List C)} {r : V} {Rv : Value → Prop} (hr : ∀ w L v, Rv v → RepV nm w L (fun _ => 0) (.h 0) r v)
    {args : Array Value} (R : Rel nm vs.length (argEnts 0 vs ++ boxesEnts 0 bs) ⟨args, []⟩ w L)
    (h : FnTo P fid args w fun v w' => Rv v ∧ RowKit.Below w.heap.size w w') :
    FnTo P fid args w fun v w' => ∃ L', Mono w w' L L' ∧ Rel nm 0 (boxesEnts 0 bs) ⟨#[], []⟩ w' L' ∧ RepV nm w' L' (fun _ => 0) (.h 0) r v :=
  h.mono (fun v w' ⟨h1, h2⟩ => ⟨L, (R.below h2).2, (R.below h2).1.dropArgs, hr w' L v h1⟩)
end
end
section
section
variable {nm : FuncId → Option Nat} {N : Nat} {S : St} {a : Act} {w : World} {L : LabF}
theorem Rel.plainBoxes {S' : St} (h : Rel nm N S a w L) (hE : ∀ k, (∀ i, k ≠ .s i) → S'.E k = S.E k) (hs : ∀ i, S'.E (.s i) = V.dead)
    (hd : ∀ r c x, S.E (.b r c) = .one x → x = .dead ∨ (∃ y, x = .d y) ∨ ∃ t, x = .bld t) : Rel nm 0 S' ⟨#[], []⟩ w L := by
  refine ⟨rfl, rfl, ?_, ?_, ?_, ?_, ?_, h.dom, h.rowInj, h.boxInj⟩
  · intro i
    rw [hs]
    exact .one .dead
  · intro r c x hx hxd
    rw [hE _ (by intro i e; cases e)] at hx
    have h1 := h.cell r c x hx hxd
    have hre : ∀ {v}, RepC nm w L S.γ (.b r c) 0 x v → RepC nm w L S'.γ (.b r c) 0 x v := by
      intro v hv
      rcases hd r c x hx with rfl | ⟨y, rfl⟩ | ⟨t, rfl⟩
      · exact .dead
      · cases hv with | d h => exact .d h
      · cases hv with | bld hk hv => exact .bld hk hv
    cases r with
    | g i => obtain ⟨v, hv⟩ := h1; exact ⟨v, hre hv⟩
    | e i => obtain ⟨B, o, cur, e, fz, v, g1, g2, g3, g4, g5, g6⟩ := h1; exact ⟨B, o, cur, e, fz, v, g1, g2, g3, g4, hre g5, g6⟩
    | l i => obtain ⟨B, o, cur, e, fz, v, g1, g2, g3, g4, g5, g6⟩ := h1; exact ⟨B, o, cur, e, fz, v, g1, g2, g3, g4, hre g5, g6⟩
  · intro r c
    rw [hE _ (by intro i e; cases e)]
    exact h.bone r c
  · intro r c hc
    rw [hE _ (by intro i e; cases e)] at hc ⊢
    exact h.bound r c hc
  · intro r hg hr
    rw [hE _ (by intro i e; cases e)] at hr ⊢
    exact h.room r hg hr
theorem grow_ok {P : Program} {fid : FuncId} {t : TypeId} {n : Nat} (hn : 1 ≤ n)
    (hg : ∀ (b : Nat) (w : World) (p : Value) (fz : Nat × Nat), w.heap[b]? = some (.cells #[p, .slice none 0 0] t fz) → unfroz 2 fz →
      (p = .pointer none ∨ p = .pointer (some ⟨b, 0, none⟩)) →
      FnTo P fid #[.pointer (some ⟨b, 0, none⟩), .int .i64 n] w fun v w' => v = .tuple #[] ∧ ∃ cs : Array Value, n ≤ cs.size ∧ w'.os = w.os ∧ w'.tape = w.tape ∧ w'.output = w.output ∧
        w'.heap = ((w.setCell ⟨b, 0, none⟩ (.pointer (some ⟨b, 0, none⟩))).setCell ⟨b, 1, none⟩ (.slice (some ⟨w.heap.size, 0, none⟩) 0 cs.size)).heap.push (.cells cs 5))
    {args : Array Value} (hH : NoH L) (R : Rel nm 2 (argEnts 0 [.one (.ptr (.e 0) 0 0), .one (.d (.int .i64 n))] ++ boxesEnts 0 [[.bld t, .d (.sl (.im true) 1 [])]]) ⟨args, []⟩ w L) :
    FnTo P fid args w fun v w' => ∃ L', Mono w w' L L' ∧ Rel nm 0 (boxesEnts 0 [[.bld t, .d (.sl .own 1 [])]]) ⟨#[], []⟩ w' L' ∧ RepV nm w' L' (fun _ => 0) (.h 0) (.tup []) v := by
  have hγ := entry_γ [V.one (.ptr (.e 0) 0 0), .one (.d (.int .i64 n))] [[.bld t, .d (.sl (.im true) 1 [])]]
  generalize hS0 : (argEnts 0 [V.one (.ptr (.e 0) 0 0), .one (.d (.int .i64 n))] ++ boxesEnts 0 [[.bld t, .d (.sl (.im true) 1 [])]] : St) = S0 at R hγ
  have hE0 : S0.E (.b (.e 0) 0) = .one (.bld t) := by subst hS0; rfl
  have hE1 : S0.E (.b (.e 0) 1) = .one (.d (.sl (.im true) 1 [])) := by subst hS0; rfl
  have hEr : S0.E (.r (.e 0)) = sizeV 2 := by subst hS0; rfl
  have hsz : args.size = 2 := R.size
  have h0 := R.slot 0
  have h1 := R.slot 1
  rw [show S0.E (.s 0) = .one (.ptr (.e 0) 0 0) by subst hS0; rfl] at h0
  rw [show S0.E (.s 1) = .one (.d (.int .i64 n)) by subst hS0; rfl] at h1
  have hargs : args = #[args[0], args[1]] := by
    apply Array.ext
    · simpa using hsz
    · intro i h1 h2
      match i, h2 with
      | 0, _ => rfl
      | 1, _ => rfl
  rw [show (⟨args, []⟩ : Act).tmps.getD 0 undef = args[0] by simp [Array.getD, hsz]] at h0
  rw [show (⟨args, []⟩ : Act).tmps.getD 1 undef = args[1] by simp [Array.getD, hsz]] at h1
  generalize hv0 : args[0] = v0 at h0
  generalize hv1 : args[1] = v1 at h1
  rw [hv0, hv1] at hargs
  obtain rfl : v1 = .int .i64 n := by
    cases h1 with
    | one h1 => cases h1 with
      | d h1 => cases h1 with
        | plain h1 => cases h1; rfl
  cases h0 with
  | one h0 =>
    cases h0 with
    | ptr hv0' hg0 hp =>
      obtain ⟨B, o, hB, rfl⟩ := hp (by rw [hγ])
      obtain ⟨B', o', cur, e, fz, v, k1, k2, k3, k4, k5, k6⟩ := R.cell (.e 0) 0 _ hE0 (by simp)
      obtain rfl := R.boxInj B' B (.e 0) o' o k1 hB
      obtain ⟨rfl, _, rfl, hsz2, hvv⟩ := k6
      obtain rfl : o = 0 := by rw [k1] at hB; simpa using hB.symm
      obtain ⟨B2, o2, cur2, e2, fz2, u, j1, j2, j3, j4, j5, j6⟩ := R.cell (.e 0) 1 _ hE1 (by simp)
      obtain rfl := R.boxInj B2 B' (.e 0) o2 0 j1 hB
      obtain rfl : o2 = 0 := by rw [hB] at j1; simpa using j1.symm
      rw [k2] at j2
      simp only [Option.some.injEq, Obj.cells.injEq] at j2
      obtain ⟨rfl, rfl, rfl⟩ := j2
      obtain rfl : u = .slice none 0 0 := by
        cases j5 with
        | d h => cases h with
          | plain h => cases h; rfl
      have hcur : cur = #[v, .slice none 0 0] := by
        apply Array.ext
        · simpa using hsz2
        · intro i h1 h2
          match i, h2 with
          | 0, _ =>
            have := (Array.getElem?_eq_some_iff.1 k4).2
            simpa using this
          | 1, _ =>
            have := (Array.getElem?_eq_some_iff.1 j4).2
            simpa using this
      subst hcur
      simp only [Nat.add_zero] at hargs
      obtain ⟨R1, M1⟩ := R.bldTouch rfl hE0 hB
      have hlt : B2 < w.heap.size := (Array.getElem?_eq_some_iff.1 k2).1
      rw [hargs]
      refine (hg B2 w v fz k2 k3 hvv).mono ?_
      rintro _ w' ⟨rfl, cs, hcs, ho, ht, hu, hh⟩
      generalize hW1 : w.setCell ⟨B2, 0, none⟩ (.pointer (some ⟨B2, 0, none⟩)) = W1 at R1 M1 hh
      have hs1 : W1.heap.size = w.heap.size := by subst hW1; simp
      have hfree : ∀ B o, L B ≠ some (.row ⟨.h 0, 0, []⟩ o) := by
        intro B o hB
        have := hH B _ o hB
        simp [Key.isPl] at this
      obtain ⟨R2, M2, C2⟩ := R1.newRowW (m := 0) (j := 0) hfree (w' := W1.alloc (.cells cs 5)) (cur := cs) (e := 5) (fz := (0, 0)) (rows := []) (val := fun _ _ => undef) (sz := 1) (cap := cs.size)
        (heap_alloc_self W1 _) (fun B hB => heap_alloc_lt W1 _ hB) (fun j _ => by simp) ⟨rfl, rfl, rfl, by simp⟩ Nat.one_pos (by simp) (by simp) (by simp) (by intro i c x hx; simp [cellOf] at hx)
        (by intro i c x hx; simp [cellOf] at hx) (fun _ => rfl)
      have hB2 : (L.put W1.heap.size (.row ⟨.h 0, 0, []⟩ 0)) B2 = some (.box (.e 0) 0) := by
        rw [LabF.put_other (by omega)]; exact hB
      obtain ⟨L3, R3, _, M3, _, _⟩ := R2.boxSet (m := 0) (j := 0) hB2 (c := 1) (by rw [hEr]; decide) rfl C2
      have hheap : w'.heap = ((W1.alloc (.cells cs 5)).setCell ⟨B2, 0 + 1, none⟩ (.slice (some ⟨W1.heap.size, 0, none⟩) ([] : List (List D)).length cs.size)).heap := by
        rw [hh, hs1]
        have hal : (W1.alloc (.cells cs 5)).heap = W1.heap.push (.cells cs 5) := by rw [← World.alloc_eq]
        simp only [World.setCell, hal]
        apply Array.ext
        · simp
        · intro i h1 h2
          simp only [Array.getElem_push, Array.getElem_modify, Array.size_modify]
          by_cases hi : i < W1.heap.size
          · simp [hi, Array.getElem_push]
          · have : i = W1.heap.size := by simp at h1; omega
            subst this
            simp [show ¬ B2 = W1.heap.size by omega]
      obtain ⟨R4, M4⟩ := R3.below (w' := w') ⟨by rw [ho]; subst hW1; rfl, by rw [ht]; subst hW1; rfl, by rw [hu]; subst hW1; rfl, by rw [hheap]; exact Nat.le_refl _, fun i _ => by rw [hheap]⟩
      refine ⟨L3, ((M1.trans M2).trans M3).trans M4, R4.plainBoxes ?_ ?_ ?_, .tup rfl rfl (by simp)⟩
      · intro k hk
        rw [St.E_wr]
        subst hS0
        simp only
        unfold St.E
        rw [argEnts_get]
        split
        · rename_i he; subst he; rfl
        · rename_i he
          rw [boxesEnts_get]
          cases k with
          | s i => exact absurd rfl (hk i)
          | r x =>
            simp only; rw [boxesEnts_get]
            cases x with
            | e i =>
              match i with
              | 0 => rfl
              | i + 1 => simp
            | _ => rfl
          | b x c =>
            simp only; rw [boxesEnts_get]
            cases x with
            | e i =>
              match i, c with
              | 0, 0 => rfl
              | 0, 1 => exact absurd rfl he
              | 0, c + 2 => simp
              | i + 1, c => simp
            | _ => rfl
          | _ => simp only; rw [boxesEnts_get]
      · intro i
        rw [boxes_E]
      · intro r c x hx
        rw [St.E_wr] at hx
        simp only at hx
        split at hx
        · simp only [V.one.injEq] at hx; subst hx; exact .inr (.inl ⟨_, rfl⟩)
        · subst hS0
          unfold St.E at hx
          rw [argEnts_get] at hx
          simp only at hx
          rw [boxesEnts_get] at hx
          cases r with
          | e i =>
            match i, c with
            | 0, 0 => simp at hx; subst hx; exact .inr (.inr ⟨_, rfl⟩)
            | 0, 1 => simp at hx; subst hx; exact .inr (.inl ⟨_, rfl⟩)
            | 0, c + 2 => simp [V.dead] at hx; exact .inl hx.symm
            | i + 1, c => simp [V.dead] at hx; exact .inl hx.symm
          | g i => simp [V.dead] at hx; exact .inl hx.symm
          | l i => simp [V.dead] at hx; exact .inl hx.symm
end
end
end Go.Abs
