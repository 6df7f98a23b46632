/- Calls: coming back. -/
import Derived.Test.YtjndnconlakjkaaAbsCall3
set_option linter.unusedVariables false
set_option linter.unusedSimpArgs false
namespace Go.Abs

/-- The labels behind a call. 'ok': the cells whose slices the callee may have turned. -/
def exitL (rs : List Root) (ok : Nat → Nat → Bool) (size : Nat) (L Lc Lc' : LabF) : LabF := fun B =>
  if (Lc B).isNone = true ∧ B < size then
    match L B with
    | some (.row ⟨.b r c, j, p⟩ o) => (match rootIdx rs r 0 with | some i => if ok i c = true then none else some (.row ⟨.b r c, j, p⟩ o) | none => some (.row ⟨.b r c, j, p⟩ o))
    | some (.box r o) => if rs.contains r = true then none else some (.box r o)
    | x => x
  else
    match Lc' B with
    | some .imm => some .imm
    | some (.box (.e i) o) => (rs[i]?).map fun r => .box r o
    | some (.row ⟨.b (.e i) c, j, p⟩ o) => (match rs[i]? with | some r => if ok i c = true then some (.row ⟨.b r c, j, p⟩ o) else none | none => none)
    | some (.row ⟨.h 0, j, p⟩ o) => some (.row ⟨.h 0, j, p⟩ o)
    | _ => none

mutual
theorem outC_clean {gs : List (Root × Nat)} : ∀ {c c' : C}, c.clean = true → c.outC gs = some c' → c'.clean = true
  | .d x, c', h, hi => by simp only [C.outC, Option.some.injEq] at hi; subst hi; exact h
  | .ptr (.e i) g k, c', h, hi => by simp only [C.outC] at hi; obtain ⟨i, _, rfl⟩ := map_some' hi; rfl
  | .ptr (.l i) g k, c', h, hi => by simp [C.outC] at hi
  | .ptr (.g i) g k, c', h, hi => by simp [C.outC] at hi
  | .pp cells, c', h, hi => by simp only [C.outC, Option.some.injEq] at hi; subst hi; rfl
  | .fn f x y, c', h, hi => by
    simp only [C.outC] at hi
    obtain ⟨x', h1, h2⟩ := Option.bind_eq_some_iff.1 hi
    obtain ⟨y', h3, rfl⟩ := map_some' h2
    simp only [C.clean, Bool.and_eq_true] at h ⊢
    exact ⟨outL_clean h.1 h1, outL_clean h.2 h3⟩
  | .nilp, c', h, hi => by simp only [C.outC, Option.some.injEq] at hi; subst hi; rfl
  | .nilf, c', h, hi => by simp only [C.outC, Option.some.injEq] at hi; subst hi; rfl
  | .nili, c', h, hi => by simp only [C.outC, Option.some.injEq] at hi; subst hi; rfl
  | .ifc, c', h, hi => by simp only [C.outC, Option.some.injEq] at hi; subst hi; rfl
  | .dead, c', h, hi => by simp only [C.outC, Option.some.injEq] at hi; subst hi; rfl
  | .eptr .., c', h, hi => by simp [C.outC] at hi
  | .view .., c', h, hi => by simp [C.outC] at hi
  | .appd .., c', h, hi => by simp [C.outC] at hi
theorem outL_clean {gs : List (Root × Nat)} : ∀ {l l' : List C}, cleanL l = true → outL gs l = some l' → cleanL l' = true
  | [], l', h, hi => by simp only [outL, Option.some.injEq] at hi; subst hi; rfl
  | c :: t, l', h, hi => by
    simp only [outL] at hi
    obtain ⟨c1, h1, h2⟩ := Option.bind_eq_some_iff.1 hi
    obtain ⟨t1, h3, rfl⟩ := map_some' h2
    simp only [cleanL, Bool.and_eq_true] at h ⊢
    exact ⟨outC_clean h.1 h1, outL_clean h.2 h3⟩
end

theorem outL_get {gs : List (Root × Nat)} : ∀ {l l' : List C} (j : Nat) {c' : C}, outL gs l = some l' → l'[j]? = some c' → ∃ c, l[j]? = some c ∧ c.outC gs = some c'
  | [], l', j, c', h, hj => by simp only [outL, Option.some.injEq] at h; subst h; simp at hj
  | c :: t, l', j, c', h, hj => by
    simp only [outL] at h
    obtain ⟨c1, h1, h2⟩ := Option.bind_eq_some_iff.1 h
    obtain ⟨t1, h3, rfl⟩ := map_some' h2
    cases j with
    | zero => simp at hj; subst hj; exact ⟨c, rfl, h1⟩
    | succ j => obtain ⟨c2, g1, g2⟩ := outL_get j h3 (by simpa using hj); exact ⟨c2, by simpa using g1, g2⟩
theorem outL_length {gs : List (Root × Nat)} : ∀ {l l' : List C}, outL gs l = some l' → l'.length = l.length
  | [], l', h => by simp only [outL, Option.some.injEq] at h; subst h; rfl
  | c :: t, l', h => by
    simp only [outL] at h
    obtain ⟨c1, h1, h2⟩ := Option.bind_eq_some_iff.1 h
    obtain ⟨t1, h3, rfl⟩ := map_some' h2
    simp [outL_length h3]
theorem outVs_get {gs : List (Root × Nat)} : ∀ {l l' : List V} (j : Nat) {c' : V}, outVs gs l = some l' → l'[j]? = some c' → ∃ c, l[j]? = some c ∧ c.outV gs = some c'
  | [], l', j, c', h, hj => by simp only [outVs, Option.some.injEq] at h; subst h; simp at hj
  | c :: t, l', j, c', h, hj => by
    simp only [outVs] at h
    obtain ⟨c1, h1, h2⟩ := Option.bind_eq_some_iff.1 h
    obtain ⟨t1, h3, rfl⟩ := map_some' h2
    cases j with
    | zero => simp at hj; subst hj; exact ⟨c, rfl, h1⟩
    | succ j => obtain ⟨c2, g1, g2⟩ := outVs_get j h3 (by simpa using hj); exact ⟨c2, by simpa using g1, g2⟩
theorem outVs_length {gs : List (Root × Nat)} : ∀ {l l' : List V}, outVs gs l = some l' → l'.length = l.length
  | [], l', h => by simp only [outVs, Option.some.injEq] at h; subst h; rfl
  | c :: t, l', h => by
    simp only [outVs] at h
    obtain ⟨c1, h1, h2⟩ := Option.bind_eq_some_iff.1 h
    obtain ⟨t1, h3, rfl⟩ := map_some' h2
    simp [outVs_length h3]
mutual
theorem outV_clean {gs : List (Root × Nat)} : ∀ {c c' : V}, c.clean = true → c.outV gs = some c' → c'.clean = true
  | .one c, c', h, hi => by simp only [V.outV] at hi; obtain ⟨x, h1, rfl⟩ := map_some' hi; exact outC_clean (c := c) h h1
  | .agg cs, c', h, hi => by simp only [V.outV] at hi; obtain ⟨x, h1, rfl⟩ := map_some' hi; exact outL_clean (l := cs) h h1
  | .tup vs, c', h, hi => by simp only [V.outV] at hi; obtain ⟨x, h1, rfl⟩ := map_some' hi; exact outVs_clean (l := vs) h h1
theorem outVs_clean {gs : List (Root × Nat)} : ∀ {l l' : List V}, cleanVs l = true → outVs gs l = some l' → cleanVs l' = true
  | [], l', h, hi => by simp only [outVs, Option.some.injEq] at hi; subst hi; rfl
  | c :: t, l', h, hi => by
    simp only [outVs] at hi
    obtain ⟨c1, h1, h2⟩ := Option.bind_eq_some_iff.1 hi
    obtain ⟨t1, h3, rfl⟩ := map_some' h2
    simp only [cleanVs, Bool.and_eq_true] at h ⊢
    exact ⟨outV_clean h.1 h1, outVs_clean h.2 h3⟩
end
theorem outBs_get {gs : List (Root × Nat)} : ∀ {l l' : List (List C)} (j : Nat) {c' : List C}, outBs gs l = some l' → l'[j]? = some c' → ∃ c, l[j]? = some c ∧ outL gs c = some c'
  | [], l', j, c', h, hj => by simp only [outBs, Option.some.injEq] at h; subst h; simp at hj
  | c :: t, l', j, c', h, hj => by
    simp only [outBs] at h
    obtain ⟨c1, h1, h2⟩ := Option.bind_eq_some_iff.1 h
    obtain ⟨t1, h3, rfl⟩ := map_some' h2
    cases j with
    | zero => simp at hj; subst hj; exact ⟨c, rfl, h1⟩
    | succ j => obtain ⟨c2, g1, g2⟩ := outBs_get j h3 (by simpa using hj); exact ⟨c2, by simpa using g1, g2⟩
theorem outBs_length {gs : List (Root × Nat)} : ∀ {l l' : List (List C)}, outBs gs l = some l' → l'.length = l.length
  | [], l', h => by simp only [outBs, Option.some.injEq] at h; subst h; rfl
  | c :: t, l', h => by
    simp only [outBs] at h
    obtain ⟨c1, h1, h2⟩ := Option.bind_eq_some_iff.1 h
    obtain ⟨t1, h3, rfl⟩ := map_some' h2
    simp [outBs_length h3]

section
variable {nm : FuncId → Option Nat} {N : Nat} {a : Act} {w w' : World} {L Lc Lc' L2 : LabF} {γ2 : Key → Nat} {gs : List (Root × Nat)}

/-- What the labels behind a call keep of the callee's. -/
structure Back (w' : World) (Lc' L2 : LabF) (γ2 : Key → Nat) (gs : List (Root × Nat)) : Prop where
  imm : ∀ B, Lc' B = some .imm → L2 B = some .imm
  box : ∀ B (i : Nat) r g o, gs[i]? = some (r, g) → Lc' B = some (.box (.e i) o) → L2 B = some (.box r o)
  gen : ∀ (i : Nat) r g, gs[i]? = some (r, g) → g ≤ γ2 (.r r)

theorem RepC.back {k : Key} {j : Nat} {c : C} {v : Value} (hb : Back w' Lc' L2 γ2 gs) (h : RepC nm w' Lc' (fun _ => 0) k j c v) : ∀ {c' : C}, c.outC gs = some c' → c.clean = true → ∀ k' j', RepC nm w' L2 γ2 k' j' c' v := by
  have himm : ImmKept w' w' Lc' L2 := fun B hB => ⟨hb.imm B hB, rfl⟩
  induction h with
  | @d x v h =>
    intro c' hi hc k' j'
    simp only [C.outC, Option.some.injEq] at hi
    subst hi
    cases h with
    | plain h => exact .d (.plain (h.mono himm))
    | ownE => simp [C.clean] at hc
    | own => simp [C.clean] at hc
  | @ptr r g c v hv hg h =>
    intro c' hi hc k' j'
    cases r with
    | e i =>
      simp only [C.outC] at hi
      obtain ⟨⟨r', g'⟩, h1, rfl⟩ := map_some' hi
      obtain ⟨B, o, h2, h3⟩ := h (by omega)
      exact .ptr hv (hb.gen i r' g' h1) (fun _ => ⟨B, o, hb.box B i r' g' o h1 h2, h3⟩)
    | l i => simp [C.outC] at hi
    | g i => simp [C.outC] at hi
  | eptr => intro c' hi; simp [C.outC] at hi
  | pp hL hB h =>
    intro c' hi hc k' j'
    simp only [C.outC, Option.some.injEq] at hi
    subst hi
    refine .pp (hb.imm _ hL) hB (fun q x hx => ?_)
    obtain ⟨u, h1, h2⟩ := h q x hx
    exact ⟨u, h1, h2.mono himm⟩
  | view => intro c' hi; simp [C.outC] at hi
  | appd => intro c' hi; simp [C.outC] at hi
  | @fn f first cap fid fs cs hf h1 h2 hcl h3 h4 ih3 ih4 =>
    intro c' hi hc k' j'
    have hcl' := outC_clean hc hi
    simp only [C.outC] at hi
    obtain ⟨x', g1, g2⟩ := Option.bind_eq_some_iff.1 hi
    obtain ⟨y', g3, rfl⟩ := map_some' g2
    simp only [C.clean, Bool.and_eq_true] at hcl'
    refine .fn hf (by rw [outL_length g1]; exact h1) (by rw [outL_length g3]; exact h2) hcl' ?_ ?_
    · intro i x u hx hu
      obtain ⟨c0, k1, k2⟩ := outL_get i g1 hx
      exact ih3 i c0 u k1 hu k2 (cleanL_get hcl.1 k1) _ _
    · intro i x u hx hu
      obtain ⟨c0, k1, k2⟩ := outL_get i g3 hx
      exact ih4 i c0 u k1 hu k2 (cleanL_get hcl.2 k1) _ _
  | nilp => intro c' hi _ _ _; simp only [C.outC, Option.some.injEq] at hi; subst hi; exact .nilp
  | nilf => intro c' hi _ _ _; simp only [C.outC, Option.some.injEq] at hi; subst hi; exact .nilf
  | nili => intro c' hi _ _ _; simp only [C.outC, Option.some.injEq] at hi; subst hi; exact .nili
  | ifc => intro c' hi _ _ _; simp only [C.outC, Option.some.injEq] at hi; subst hi; exact .ifc
  | dead => intro c' hi _ _ _; simp only [C.outC, Option.some.injEq] at hi; subst hi; exact .dead

/-- The same, of a cell whose own slices' labels come along. -/
theorem RepC.backOwn {k k' : Key} {j : Nat} {c : C} {v : Value} (hb : Back w' Lc' L2 γ2 gs) (h : RepC nm w' Lc' (fun _ => 0) k j c v) {c' : C} (hi : c.outC gs = some c')
    (hrow : ∀ x, c = .d x → ∀ B q o, q.k = k → q.j = j → Lc' B = some (.row q o) → L2 B = some (.row ⟨k', j, q.p⟩ o)) : RepC nm w' L2 γ2 k' j c' v := by
  cases c with
  | d x =>
    simp only [C.outC, Option.some.injEq] at hi
    subst hi
    cases h with
    | d h =>
      exact .d (RepD.move (fun q => ⟨k', j, q.p⟩) (fun q => q.k = k ∧ q.j = j) (fun _ _ _ h => h) (fun _ _ _ _ => rfl) (fun B hB => ⟨hb.imm B hB, rfl⟩) (fun B q o hq hL => ⟨hrow x rfl B q o hq.1 hq.2 hL, rfl⟩) h ⟨rfl, rfl⟩)
  | appd => simp [C.outC] at hi
  | _ => exact h.back hb hi (h.clean_of rfl) _ _

theorem RepV.back {x : V} {v : Value} (hb : Back w' Lc' L2 γ2 gs) (h : RepV nm w' Lc' (fun _ => 0) (.h 0) x v) : ∀ {x' : V}, x.outV gs = some x' → (∀ B q o, q.k = .h 0 → Lc' B = some (.row q o) → L2 B = some (.row q o)) → RepV nm w' L2 γ2 (.h 0) x' v := by
  induction h with
  | @one c v h =>
    intro x' hi hrow
    simp only [V.outV] at hi
    obtain ⟨c', h1, rfl⟩ := map_some' hi
    exact .one (h.backOwn hb h1 (fun x _ B q o h1 h2 h3 => by have := hrow B q o h1 h3; rw [this]; cases q; simp_all))
  | @agg cs vs hl h =>
    intro x' hi hrow
    simp only [V.outV] at hi
    obtain ⟨cs', h1, rfl⟩ := map_some' hi
    refine .agg (by rw [outL_length h1]; exact hl) (fun j c u hj hu => ?_)
    obtain ⟨c0, g1, g2⟩ := outL_get j h1 hj
    exact (h j c0 u g1 hu).backOwn hb g2 (fun x _ B q o h1 h2 h3 => by have := hrow B q o h1 h3; rw [this]; cases q; simp_all)
  | @tup vs us hl hcl h ih =>
    intro x' hi hrow
    simp only [V.outV] at hi
    obtain ⟨vs', h1, rfl⟩ := map_some' hi
    refine .tup (by rw [outVs_length h1]; exact hl) (outVs_clean hcl h1) (fun i x u hj hu => ?_)
    obtain ⟨c0, g1, g2⟩ := outVs_get i h1 hj
    exact ih i c0 u g1 hu g2 hrow

/-- What is asked of the state behind a call. -/
structure ExitS (S1 S2 : St) (rs : List Root) (bs2 : List (List C)) (ok : Nat → Nat → Bool) : Prop where
  len : bs2.length = rs.length
  cellE : ∀ (i : Nat) r (cs : List C), rs[i]? = some r → bs2[i]? = some cs → ∀ (c : Nat) x, cs[c]? = some x → S2.E (.b r c) = .one x
  out : ∀ (i : Nat) r (cs : List C), rs[i]? = some r → bs2[i]? = some cs → ∀ c, cs.length ≤ c → S2.E (.b r c) = .one .dead
  size : ∀ (i : Nat) r (cs : List C), rs[i]? = some r → bs2[i]? = some cs → boxN (S2.E (.r r)) = cs.length
  other : ∀ k, (∀ r c, k = .b r c → r ∉ rs) → (∀ r, k = .r r → r ∉ rs) → S2.E k = S1.E k
  cnt : ∀ k, S1.γ k ≤ S2.γ k
  wr : ∀ (i : Nat) r c, rs[i]? = some r → ok i c = true → S1.γ (.b r c) < S2.γ (.b r c)
  sameE : ∀ (i : Nat) r c, rs[i]? = some r → ok i c = false → ∀ x, S1.E (.b r c) ≠ .one (.d x)
  same : ∀ (i : Nat) r (cs : List C), rs[i]? = some r → bs2[i]? = some cs → ∀ (c : Nat) x, cs[c]? = some x → ok i c = false → ∀ y, x ≠ .d y

theorem exit_rel {S1 S2 : St} {rsI rs : List Root} {bs2 out : List (List C)} {ok : Nat → Nat → Bool} (R : Rel nm N S1 a w L) (hH : NoH L) (hnd : rs.Nodup) (hsub : ∃ t, rs = rsI ++ t) (hG : ∀ r ∈ rs, r.isG = false)
    (hnew : ∀ r ∈ rs, r ∉ rsI → S1.γ (.r r) < S2.γ (.r r) ∧ ∀ i, r ≠ .e i)
    (hLc : Lc = enterL rsI S1.E L) (hm : Mono w w' Lc Lc') (Rc : Rel nm 0 (boxesEnts 0 out) ⟨#[], []⟩ w' Lc') (X : ExitS S1 S2 rs bs2 ok) (hgs : ∀ i : Nat, (gs[i]?).map (·.1) = rs[i]?) (hgen : ∀ (i : Nat) r g, gs[i]? = some (r, g) → g ≤ S2.γ (.r r))
    (hbs : outBs gs out = some bs2) :
    Rel nm N S2 a w' (exitL rs ok w.heap.size L Lc Lc') ∧ Mono w w' L (exitL rs ok w.heap.size L Lc Lc') ∧ Back w' Lc' (exitL rs ok w.heap.size L Lc Lc') S2.γ gs ∧
      (∀ B q o, q.k = .h 0 → Lc' B = some (.row q o) → exitL rs ok w.heap.size L Lc Lc' B = some (.row q o)) := by
  -- where the callee had no label, nothing turned
  have hnone : ∀ {B}, Lc B = none → B < w.heap.size → Lc' B = none ∧ w'.heap[B]? = w.heap[B]? := fun h1 h2 => hm.none _ h2 h1
  have hlt : ∀ {B l}, L B = some l → B < w.heap.size := by
    intro B l hB
    obtain ⟨cur, e, fz, h⟩ := R.dom B l hB
    exact (Array.getElem?_eq_some_iff.1 h).1
  have hin : ∀ {B l}, Lc' B = some l → ¬ ((Lc B).isNone = true ∧ B < w.heap.size) := by
    rintro B l h ⟨h1, h2⟩
    rw [(hnone (by simpa using h1) h2).1] at h
    cases h
  have hback : Back w' Lc' (exitL rs ok w.heap.size L Lc Lc') S2.γ gs := by
    refine ⟨fun B hB => ?_, fun B i r g o hg hB => ?_, hgen⟩
    · unfold exitL; rw [if_neg (hin hB)]; simp [hB]
    · unfold exitL; rw [if_neg (hin hB)]
      have := hgs i
      rw [hg] at this
      simp only [Option.map_some] at this
      simp [hB, ← this]
  have hlim : ∀ B q o, q.k = .h 0 → Lc' B = some (.row q o) → exitL rs ok w.heap.size L Lc Lc' B = some (.row q o) := by
    intro B q o hq hB
    unfold exitL; rw [if_neg (hin hB)]
    obtain ⟨k, j, p⟩ := q
    simp only at hq
    subst hq
    simp [hB]
  -- labels of boxes and rows that come back
  have hrowb : ∀ {B i c j p o r}, rs[i]? = some r → ok i c = true → Lc' B = some (.row ⟨.b (.e i) c, j, p⟩ o) → exitL rs ok w.heap.size L Lc Lc' B = some (.row ⟨.b r c, j, p⟩ o) := by
    intro B i c j p o r hr hok hB
    unfold exitL; rw [if_neg (hin hB)]
    simp [hB, hr, hok]
  have hboxb : ∀ {B i o r}, rs[i]? = some r → Lc' B = some (.box (.e i) o) → exitL rs ok w.heap.size L Lc Lc' B = some (.box r o) := by
    intro B i o r hr hB
    unfold exitL; rw [if_neg (hin hB)]
    simp [hB, hr]
  -- labels that stay
  have hidx : ∀ {r i}, rs[i]? = some r → rootIdx rs r 0 = some i := fun h => by have := rootIdx_of rs (i := 0) hnd h; rwa [Nat.zero_add] at this
  have hstayB : ∀ {B r o}, L B = some (.box r o) → r ∉ rs → exitL rs ok w.heap.size L Lc Lc' B = some (.box r o) ∧ Lc B = none := by
    intro B r o hB hr
    have hl : Lc B = none := by
      rw [hLc]
      simp only [enterL, hB]
      cases hx : rootIdx rsI r 0 with
      | none => rfl
      | some i =>
        obtain ⟨t, ht⟩ := hsub
        exact absurd (by rw [ht]; exact List.mem_append_left _ (List.mem_of_getElem? (rootIdx_inv rsI hx).2)) hr
    refine ⟨?_, hl⟩
    unfold exitL; rw [if_pos ⟨by rw [hl]; rfl, hlt hB⟩]
    simp [hB, hr]
  have hsubm : ∀ {r}, r ∈ rsI → r ∈ rs := fun h => by obtain ⟨t, ht⟩ := hsub; rw [ht]; exact List.mem_append_left _ h
  have hstayR : ∀ {B q o}, L B = some (.row q o) → (∀ (i : Nat) r c, rs[i]? = some r → q.k = .b r c → ok i c = false) →
      exitL rs ok w.heap.size L Lc Lc' B = some (.row q o) ∧ Lc B = none := by
    intro B q o hB h1
    have hq := hH B q o hB
    obtain ⟨k, j, p⟩ := q
    cases k with
    | s i =>
      have hl : Lc B = none := by rw [hLc]; simp [enterL, hB]
      refine ⟨?_, hl⟩
      unfold exitL; rw [if_pos ⟨by rw [hl]; rfl, hlt hB⟩]; simp [hB]
    | b r c =>
      have hl : Lc B = none := by
        rw [hLc]
        simp only [enterL, hB]
        cases hx : rootIdx rsI r 0 with
        | none => rfl
        | some i =>
          have hmem := hsubm (List.mem_of_getElem? (rootIdx_inv rsI hx).2)
          obtain ⟨i', hi'⟩ := List.getElem?_of_mem hmem
          have := X.sameE i' r c hi' (h1 i' r c hi' rfl)
          cases hE : S1.E (.b r c) with
          | one y => cases y <;> first | rfl | exact absurd hE (this _)
          | _ => rfl
      refine ⟨?_, hl⟩
      unfold exitL; rw [if_pos ⟨by rw [hl]; rfl, hlt hB⟩]
      simp only [hB]
      cases hx : rootIdx rs r 0 with
      | none => rfl
      | some i =>
        have := h1 i r c (rootIdx_inv rs hx).2 rfl
        simp [this]
    | _ => simp [Key.isPl] at hq
  have himm : ImmKept w w' L (exitL rs ok w.heap.size L Lc Lc') := fun B hB => by
    have h1 : Lc B = some .imm := by rw [hLc]; exact enterL_imm hB
    exact ⟨hback.imm B (hm.imm B h1).1, (hm.imm B h1).2⟩
  have hboxI : ∀ {B r o}, L B = some (.box r o) → r ∈ rsI → exitL rs ok w.heap.size L Lc Lc' B = some (.box r o) := by
    intro B r o hB hr
    obtain ⟨i, hi⟩ := List.getElem?_of_mem hr
    obtain ⟨t, ht⟩ := hsub
    have hi2 : rs[i]? = some r := by rw [ht, List.getElem?_append_left (List.getElem?_eq_some_iff.1 hi).1]; exact hi
    have hnd' : rsI.Nodup := by rw [ht] at hnd; exact (List.nodup_append.1 hnd).1
    have h1 : Lc B = some (.box (.e i) o) := by
      rw [hLc]
      exact enterL_box hB (by have := rootIdx_of rsI (i := 0) hnd' hi; rwa [Nat.zero_add] at this)
    exact hboxb hi2 (hm.ebox B i o h1)
  have hheap : ∀ {B l}, L B = some l → Lc B = none → w'.heap[B]? = w.heap[B]? := fun h1 h2 => (hnone h2 (hlt h1)).2
  have hokS : ∀ {k : Key}, S2.γ k = S1.γ k → ∀ (i : Nat) r c, rs[i]? = some r → k = .b r c → ok i c = false := by
    intro k hk i r c hi he
    subst he
    cases hok : ok i c with
    | false => rfl
    | true => have := X.wr i r c hi hok; omega
  have hst : Step w w' L (exitL rs ok w.heap.size L Lc Lc') S1.γ S2.γ := by
    refine ⟨himm, X.cnt, ?_, ?_, ?_⟩
    · intro B q o hq hk hB
      obtain ⟨h1, h2⟩ := hstayR hB (hokS hk)
      exact ⟨h1, fun cur e fz hc => ⟨cur, (hheap hB h2).trans hc, rfl⟩⟩
    · intro B q o hq hk _ hB
      obtain ⟨h1, h2⟩ := hstayR hB (hokS hk)
      exact hheap hB h2
    · intro B r o hk hB
      by_cases hr : r ∈ rs
      · by_cases hrI : r ∈ rsI
        · exact hboxI hB hrI
        · have := (hnew r hr hrI).1; omega
      · exact (hstayB hB hr).1
  -- what the labels are
  have hxb : ∀ {B l}, exitL rs ok w.heap.size L Lc Lc' B = some l →
      (Lc B = none ∧ L B = some l ∧ B < w.heap.size ∧ (∀ i r c j p o, l = .row ⟨.b r c, j, p⟩ o → rs[i]? = some r → ok i c = false) ∧ ∀ r o, l = .box r o → r ∉ rs) ∨
      (l = .imm ∧ Lc' B = some .imm) ∨ (∃ (i : Nat) (r : Root) (o : Nat), l = .box r o ∧ rs[i]? = some r ∧ Lc' B = some (.box (.e i) o)) ∨
      (∃ (i : Nat) (r : Root) (c j : Nat) (p : List (Nat × Nat)) (o : Nat), l = .row ⟨.b r c, j, p⟩ o ∧ rs[i]? = some r ∧ ok i c = true ∧ Lc' B = some (.row ⟨.b (.e i) c, j, p⟩ o)) ∨
      (∃ (j : Nat) (p : List (Nat × Nat)) (o : Nat), l = .row ⟨.h 0, j, p⟩ o ∧ Lc' B = some (.row ⟨.h 0, j, p⟩ o)) := by
    intro B l h
    unfold exitL at h
    split at h
    · rename_i hc
      left
      have hn : Lc B = none := by simpa using hc.1
      split at h
      · rename_i r c j p o hL
        split at h
        · rename_i i hi
          split at h
          · cases h
          · rename_i hok
            simp only [Option.some.injEq] at h
            subst h
            refine ⟨hn, hL, hc.2, ?_, by intro _ _ h; cases h⟩
            intro i' r' c' j' p' o' he hi'
            simp only [Lab.row.injEq, Place.mk.injEq, Key.b.injEq] at he
            obtain ⟨⟨⟨rfl, rfl⟩, rfl, rfl⟩, rfl⟩ := he
            have := hidx hi'
            rw [hi] at this
            simp only [Option.some.injEq] at this
            subst this
            simpa using hok
        · rename_i hi
          simp only [Option.some.injEq] at h
          subst h
          refine ⟨hn, hL, hc.2, ?_, by intro _ _ h; cases h⟩
          intro i' r' c' j' p' o' he hi'
          simp only [Lab.row.injEq, Place.mk.injEq, Key.b.injEq] at he
          obtain ⟨⟨⟨rfl, rfl⟩, rfl, rfl⟩, rfl⟩ := he
          have := hidx hi'
          rw [hi] at this
          cases this
      · rename_i r o hL
        split at h
        · cases h
        · rename_i hr
          simp only [Option.some.injEq] at h
          subst h
          refine ⟨hn, hL, hc.2, (by intro _ _ _ _ _ _ h; cases h), ?_⟩
          intro r' o' he
          simp only [Lab.box.injEq] at he
          obtain ⟨rfl, rfl⟩ := he
          simpa using hr
      · rename_i h1 h2
        refine ⟨hn, h, hc.2, ?_, ?_⟩
        · intro i r c j p o he; subst he; exact absurd h (h1 _ _ _ _ _)
        · intro r o he; subst he; exact absurd h (h2 _ _)
    · right
      split at h
      · simp only [Option.some.injEq] at h; exact .inl ⟨h.symm, ‹_›⟩
      · rename_i i o hL
        obtain ⟨r, h1, h2⟩ := map_some' h
        exact .inr (.inl ⟨i, r, o, h2, h1, hL⟩)
      · rename_i i c j p o hL
        split at h
        · rename_i r hr
          split at h
          · rename_i hok
            simp only [Option.some.injEq] at h
            exact .inr (.inr (.inl ⟨i, r, c, j, p, o, h.symm, hr, hok, hL⟩))
          · cases h
        · cases h
      · rename_i j p o hL
        simp only [Option.some.injEq] at h
        exact .inr (.inr (.inr ⟨j, p, o, h.symm, hL⟩))
      · cases h
  have hsame : ∀ {i i' : Nat} {r}, rs[i]? = some r → rs[i']? = some r → i = i' := by
    intro i i' r h1 h2
    have e1 := hidx h1
    have e2 := hidx h2
    rw [e1] at e2
    simpa using e2
  have hb2 : ∀ {i : Nat} {r}, rs[i]? = some r → ∃ cs cs0, bs2[i]? = some cs ∧ out[i]? = some cs0 ∧ outL gs cs0 = some cs ∧ cs.length = cs0.length := by
    intro i r hi
    have hl2 : i < bs2.length := by rw [X.len]; exact (List.getElem?_eq_some_iff.1 hi).1
    have h1 : bs2[i]? = some bs2[i] := List.getElem?_eq_getElem hl2
    obtain ⟨cs0, h2, h3⟩ := outBs_get i hbs h1
    exact ⟨bs2[i], cs0, h1, h2, h3, outL_length h3⟩
  refine ⟨⟨R.size, R.defers, ?_, ?_, ?_, ?_, ?_, ?_, ?_, ?_⟩, ?_, hback, hlim⟩
  · intro i
    rw [X.other (.s i) (by intro _ _ h; cases h) (by intro _ h; cases h)]
    refine (R.slot i).step hst (fun B q o hq hB => ?_)
    obtain ⟨h1, h2⟩ := hstayR hB (fun i r c _ h => by rw [hq] at h; cases h)
    rw [← hq, Place.at_self]
    exact ⟨h1, hheap hB h2⟩
  · intro r c x hx hxd
    by_cases hr : r ∈ rs
    · obtain ⟨i, hi⟩ := List.getElem?_of_mem hr
      obtain ⟨cs, cs0, h1, h2, h3, h4⟩ := hb2 hi
      by_cases hc : c < cs.length
      · have hcs : cs[c]? = some cs[c] := List.getElem?_eq_getElem hc
        have := X.cellE i r cs hi h1 c _ hcs
        rw [hx] at this
        simp only [V.one.injEq] at this
        rw [← this] at hcs
        obtain ⟨y, k1, k2⟩ := outL_get c h3 hcs
        have hyd : y ≠ .dead := by
          rintro rfl
          simp only [C.outC, Option.some.injEq] at k2
          exact hxd k2.symm
        have hio : i < out.length := (List.getElem?_eq_some_iff.1 h2).1
        have hg0 : out.getD i [] = cs0 := by rw [List.getD_eq_getElem?_getD, h2]; rfl
        have hE : (boxesEnts 0 out : St).E (.b (.e i) c) = .one y := by
          rw [boxes_E]
          simp only [hg0]
          rw [if_pos ⟨hio, by omega⟩]
          rw [List.getD_eq_getElem?_getD, k1]; rfl
        obtain ⟨B, o, cur, e, fz, v, m1, m2, m3, m4, m5⟩ := Rc.cell (.e i) c y hE hyd
        rw [boxes_γ] at m5
        have hrep : RepC nm w' (exitL rs ok w.heap.size L Lc Lc') S2.γ (.b r c) 0 x v := by
          refine m5.backOwn hback k2 (fun z hz B' q o' hq hj hB' => ?_)
          have hok : ok i c = true := by
            cases hok : ok i c with
            | true => rfl
            | false =>
              subst hz
              simp only [C.outC, Option.some.injEq] at k2
              exact absurd k2.symm (X.same i r cs hi h1 c x hcs hok z)
          obtain ⟨k, j, p⟩ := q
          simp only at hq hj
          subst hq; subst hj
          exact hrowb hi hok hB'
        have hG' := hG r hr
        cases r with
        | g n => simp [Root.isG] at hG'
        | e n => exact ⟨B, o, cur, e, fz, v, hboxb hi m1, m2, m3, m4, hrep⟩
        | l n => exact ⟨B, o, cur, e, fz, v, hboxb hi m1, m2, m3, m4, hrep⟩
      · have := X.out i r cs hi h1 c (by omega)
        rw [hx] at this
        simp only [V.one.injEq] at this
        exact absurd this hxd
    · rw [X.other (.b r c) (by intro r' c' h; cases h; exact hr) (by intro _ h; cases h)] at hx
      refine (R.cell r c x hx hxd).step hst ?_ ?_
      · intro B q o hq hB
        obtain ⟨h1, h2⟩ := hstayR hB (fun i r' c' hi h => by rw [hq] at h; cases h; exact absurd (List.mem_of_getElem? hi) hr)
        exact ⟨h1, hheap hB h2⟩
      · intro B o hB
        obtain ⟨h1, h2⟩ := hstayB hB hr
        exact ⟨h1, fun cur e fz hc => ⟨cur, (hheap hB h2).trans hc, rfl, rfl⟩⟩
  · intro r c
    by_cases hr : r ∈ rs
    · obtain ⟨i, hi⟩ := List.getElem?_of_mem hr
      obtain ⟨cs, cs0, h1, h2, h3, h4⟩ := hb2 hi
      by_cases hc : c < cs.length
      · exact ⟨cs[c], X.cellE i r cs hi h1 c _ (List.getElem?_eq_getElem hc)⟩
      · exact ⟨.dead, X.out i r cs hi h1 c (by omega)⟩
    · rw [X.other (.b r c) (by intro r' c' h; cases h; exact hr) (by intro _ h; cases h)]
      exact R.bone r c
  · intro r c hc
    by_cases hr : r ∈ rs
    · obtain ⟨i, hi⟩ := List.getElem?_of_mem hr
      obtain ⟨cs, cs0, h1, h2, h3, h4⟩ := hb2 hi
      rw [X.size i r cs hi h1] at hc
      exact X.out i r cs hi h1 c hc
    · rw [X.other (.r r) (by intro _ _ h; cases h) (by intro r' h; cases h; exact hr)] at hc
      rw [X.other (.b r c) (by intro r' c' h; cases h; exact hr) (by intro _ h; cases h)]
      exact R.bound r c hc
  · intro r hg hpos
    by_cases hr : r ∈ rs
    · obtain ⟨i, hi⟩ := List.getElem?_of_mem hr
      obtain ⟨cs, cs0, h1, h2, h3, h4⟩ := hb2 hi
      rw [X.size i r cs hi h1] at hpos ⊢
      have hio : i < out.length := (List.getElem?_eq_some_iff.1 h2).1
      have hg0 : out.getD i [] = cs0 := by rw [List.getD_eq_getElem?_getD, h2]; rfl
      have hE : boxN ((boxesEnts 0 out : St).E (.r (.e i))) = cs.length := by
        rw [boxes_E]
        simp only [hg0]
        rw [if_pos hio, boxN_sizeV, h4]
      obtain ⟨B, o, cur, e, fz, m1, m2, m3, m4⟩ := Rc.room (.e i) rfl (by show 0 < boxN ((boxesEnts 0 out : St).E (.r (.e i))); rw [hE]; exact hpos)
      have m4' : o + cs.length ≤ cur.size := by rw [← hE]; exact m4
      exact ⟨B, o, cur, e, fz, hboxb hi m1, m2, m3, m4'⟩
    · rw [X.other (.r r) (by intro _ _ h; cases h) (by intro r' h; cases h; exact hr)] at hpos ⊢
      obtain ⟨B, o, cur, e, fz, m1, m2, m3, m4⟩ := R.room r hg hpos
      obtain ⟨h1, h2⟩ := hstayB m1 hr
      exact ⟨B, o, cur, e, fz, h1, (hheap m1 h2).trans m2, m3, m4⟩
  · intro B l hB
    rcases hxb hB with ⟨h1, h2, h3, _⟩ | ⟨_, h⟩ | ⟨_, _, _, _, _, h⟩ | ⟨_, _, _, _, _, _, _, _, _, h⟩ | ⟨_, _, _, _, h⟩
    · obtain ⟨cur, e, fz, h4⟩ := R.dom B l h2
      exact ⟨cur, e, fz, (hheap h2 h1).trans h4⟩
    all_goals exact Rc.dom B _ h
  · intro B B' pl o o' h1 h2
    rcases hxb h1 with ⟨a1, a2, a3, a4, _⟩ | ⟨a1, _⟩ | ⟨_, _, _, a1, _⟩ | ⟨i, r, c, j, p, o1, a1, a2, a3, a4⟩ | ⟨j, p, o1, a1, a2⟩
    · rcases hxb h2 with ⟨b1, b2, b3, b4, _⟩ | ⟨b1, _⟩ | ⟨_, _, _, b1, _⟩ | ⟨i, r, c, j, p, o1, b1, b2, b3, b4⟩ | ⟨j, p, o1, b1, b2⟩
      · exact R.rowInj B B' pl o o' a2 b2
      · cases b1
      · cases b1
      · simp only [Lab.row.injEq] at b1
        obtain ⟨rfl, rfl⟩ := b1
        have := a4 i r c j p o rfl b2
        rw [b3] at this; cases this
      · simp only [Lab.row.injEq] at b1
        obtain ⟨rfl, rfl⟩ := b1
        have := hH B _ o a2
        simp [Key.isPl] at this
    · cases a1
    · cases a1
    · simp only [Lab.row.injEq] at a1
      obtain ⟨rfl, rfl⟩ := a1
      rcases hxb h2 with ⟨b1, b2, b3, b4, _⟩ | ⟨b1, _⟩ | ⟨_, _, _, b1, _⟩ | ⟨i', r', c', j', p', o1', b1, b2, b3, b4⟩ | ⟨j', p', o1', b1, b2⟩
      · have := b4 i r c j p o' rfl a2
        rw [a3] at this; cases this
      · cases b1
      · cases b1
      · simp only [Lab.row.injEq, Place.mk.injEq, Key.b.injEq] at b1
        obtain ⟨⟨⟨rfl, rfl⟩, rfl, rfl⟩, rfl⟩ := b1
        obtain rfl := hsame a2 b2
        exact Rc.rowInj B B' _ _ _ a4 b4
      · simp only [Lab.row.injEq, Place.mk.injEq] at b1
        exact absurd b1.1.1 (by intro h; cases h)
    · simp only [Lab.row.injEq] at a1
      obtain ⟨rfl, rfl⟩ := a1
      rcases hxb h2 with ⟨b1, b2, b3, b4, _⟩ | ⟨b1, _⟩ | ⟨_, _, _, b1, _⟩ | ⟨i', r', c', j', p', o1', b1, b2, b3, b4⟩ | ⟨j', p', o1', b1, b2⟩
      · have := hH B' _ o' b2
        simp [Key.isPl] at this
      · cases b1
      · cases b1
      · simp only [Lab.row.injEq, Place.mk.injEq] at b1
        exact absurd b1.1.1 (by intro h; cases h)
      · simp only [Lab.row.injEq] at b1
        obtain ⟨b1, rfl⟩ := b1
        rw [← b1] at b2
        exact Rc.rowInj B B' _ _ _ a2 b2
  · intro B B' r o o' h1 h2
    rcases hxb h1 with ⟨a1, a2, a3, _, a5⟩ | ⟨a1, _⟩ | ⟨i, r1, o1, a1, a2, a3⟩ | ⟨_, _, _, _, _, _, a1, _⟩ | ⟨_, _, _, a1, _⟩
    · rcases hxb h2 with ⟨b1, b2, b3, _, b5⟩ | ⟨b1, _⟩ | ⟨i', r1', o1', b1, b2, b3⟩ | ⟨_, _, _, _, _, _, b1, _⟩ | ⟨_, _, _, b1, _⟩
      · exact R.boxInj B B' r o o' a2 b2
      · cases b1
      · simp only [Lab.box.injEq] at b1
        obtain ⟨rfl, rfl⟩ := b1
        exact absurd (List.mem_of_getElem? b2) (a5 r o rfl)
      · cases b1
      · cases b1
    · cases a1
    · simp only [Lab.box.injEq] at a1
      obtain ⟨rfl, rfl⟩ := a1
      rcases hxb h2 with ⟨b1, b2, b3, _, b5⟩ | ⟨b1, _⟩ | ⟨i', r1', o1', b1, b2, b3⟩ | ⟨_, _, _, _, _, _, b1, _⟩ | ⟨_, _, _, b1, _⟩
      · exact absurd (List.mem_of_getElem? a2) (b5 r o' rfl)
      · cases b1
      · simp only [Lab.box.injEq] at b1
        obtain ⟨rfl, rfl⟩ := b1
        obtain rfl := hsame a2 b2
        exact Rc.boxInj B B' _ _ _ a3 b3
      · cases b1
      · cases b1
    · cases a1
    · cases a1
  · refine ⟨hm.os, hm.tape, hm.output, hm.size, himm, ?_, ?_⟩
    · intro B hB hL
      have hl : Lc B = none := by rw [hLc]; simp [enterL, hL]
      refine ⟨?_, (hnone hl hB).2⟩
      unfold exitL; rw [if_pos ⟨by rw [hl]; rfl, hB⟩]; simp [hL]
    · intro B i o hB
      by_cases hr : (.e i) ∈ rs
      · by_cases hrI : (.e i) ∈ rsI
        · exact hboxI hB hrI
        · exact absurd rfl ((hnew _ hr hrI).2 i)
      · exact (hstayB hB hr).1
end
end Go.Abs
