/- An evaluator of the model's code over plain data, and that what it answers the model does: part 10 of 11. -/
import Derived.Test.YtaifamiafiefkaaGreatDoorAbs8
import Derived.Test.YtaifamiafiefkaaGreatDoorAbs7
set_option linter.unusedVariables false
set_option linter.unusedSimpArgs false
namespace Go.Abs
section
def exitL (rs : List Root) (ok : Nat → Nat → Bool) (size : Nat) (L Lc Lc' : LabF) : LabF := fun B =>
  if (Lc B).isNone = true ∧ B < size then
    match L B with
    | some (.row ⟨.b r c, j, p⟩ o) => (match rootIdx rs r 0 with | some i => if ok i c = true then none else some (.row ⟨.b r c, j, p⟩ o) | none => some (.row ⟨.b r c, j, p⟩ o))
    | some (.box r o) => if rs.contains r = true then none else some (.box r o)
    | x => x
  else
    match Lc' B with
    | some .imm => some .imm
    | some (.box (.e i) o) => (rs[i]?).map fun r => .box r o
    | some (.row ⟨.b (.e i) c, j, p⟩ o) => (match rs[i]? with | some r => if ok i c = true then some (.row ⟨.b r c, j, p⟩ o) else none | none => none)
    | some (.row ⟨.h 0, j, p⟩ o) => some (.row ⟨.h 0, j, p⟩ o)
    | _ => none
mutual
theorem outC_clean {gs : List (Root × Nat)} : ∀ {c c' : C}, c.clean = true → c.outC gs = some c' → c'.clean = true
  | .d x, c', h, hi => by simp only [C.outC, Option.some.injEq] at hi; subst hi; exact h
  | .ptr (.e i) g k, c', h, hi => by simp only [C.outC] at hi; obtain ⟨i, _, rfl⟩ := map_some' hi; rfl
  | .ptr (.l i) g k, c', h, hi => by simp [C.outC] at hi
  | .ptr (.g i) g k, c', h, hi => by simp [C.outC] at hi
  | .pp cells, c', h, hi => by simp only [C.outC, Option.some.injEq] at hi; subst hi; rfl
  | .fn f x y, c', h, hi => by
    simp only [C.outC] at hi
    obtain ⟨x', h1, h2⟩ := Option.bind_eq_some_iff.1 hi
    obtain ⟨y', h3, rfl⟩ := map_some' h2
    simp only [C.clean, Bool.and_eq_true] at h ⊢
    exact ⟨outL_clean h.1 h1, outL_clean h.2 h3⟩
  | .nilp, c', h, hi => by simp only [C.outC, Option.some.injEq] at hi; subst hi; rfl
  | .nilf, c', h, hi => by simp only [C.outC, Option.some.injEq] at hi; subst hi; rfl
  | .nili, c', h, hi => by simp only [C.outC, Option.some.injEq] at hi; subst hi; rfl
  | .ifc, c', h, hi => by simp only [C.outC, Option.some.injEq] at hi; subst hi; rfl
  | .dead, c', h, hi => by simp only [C.outC, Option.some.injEq] at hi; subst hi; rfl
  | .eptr .., c', h, hi => by simp [C.outC] at hi
  | .view .., c', h, hi => by simp [C.outC] at hi
  | .appd .., c', h, hi => by simp [C.outC] at hi
  | .mp _, c', h, hi => by simp [C.outC] at hi
  | .mref .., c', h, hi => by simp [C.outC] at hi
theorem outL_clean {gs : List (Root × Nat)} : ∀ {l l' : List C}, cleanL l = true → outL gs l = some l' → cleanL l' = true
  | [], l', h, hi => by simp only [outL, Option.some.injEq] at hi; subst hi; rfl
  | c :: t, l', h, hi => by
    simp only [outL] at hi
    obtain ⟨c1, h1, h2⟩ := Option.bind_eq_some_iff.1 hi
    obtain ⟨t1, h3, rfl⟩ := map_some' h2
    simp only [cleanL, Bool.and_eq_true] at h ⊢
    exact ⟨outC_clean h.1 h1, outL_clean h.2 h3⟩
end
theorem outL_get {gs : List (Root × Nat)} : ∀ {l l' : List C} (j : Nat) {c' : C}, outL gs l = some l' → l'[j]? = some c' → ∃ c, l[j]? = some c ∧ c.outC gs = some c'
  | [], l', j, c', h, hj => by simp only [outL, Option.some.injEq] at h; subst h; simp at hj
  | c :: t, l', j, c', h, hj => by
    simp only [outL] at h
    obtain ⟨c1, h1, h2⟩ := Option.bind_eq_some_iff.1 h
    obtain ⟨t1, h3, rfl⟩ := map_some' h2
    cases j with
    | zero => simp at hj; subst hj; exact ⟨c, rfl, h1⟩
    | succ j => obtain ⟨c2, g1, g2⟩ := outL_get j h3 (by simpa using hj); exact ⟨c2, by simpa using g1, g2⟩
theorem outL_length {gs : List (Root × Nat)} : ∀ {l l' : List C}, outL gs l = some l' → l'.length = l.length
  | [], l', h => by simp only [outL, Option.some.injEq] at h; subst h; rfl
  | c :: t, l', h => by
    simp only [outL] at h
    obtain ⟨c1, h1, h2⟩ := Option.bind_eq_some_iff.1 h
    obtain ⟨t1, h3, rfl⟩ := map_some' h2
    simp [outL_length h3]
theorem outVs_get {gs : List (Root × Nat)} : ∀ {l l' : List V} (j : Nat) {c' : V}, outVs gs l = some l' → l'[j]? = some c' → ∃ c, l[j]? = some c ∧ c.outV gs = some c'
  | [], l', j, c', h, hj => by simp only [outVs, Option.some.injEq] at h; subst h; simp at hj
  | c :: t, l', j, c', h, hj => by
    simp only [outVs] at h
    obtain ⟨c1, h1, h2⟩ := Option.bind_eq_some_iff.1 h
    obtain ⟨t1, h3, rfl⟩ := map_some' h2
    cases j with
    | zero => simp at hj; subst hj; exact ⟨c, rfl, h1⟩
    | succ j => obtain ⟨c2, g1, g2⟩ := outVs_get j h3 (by simpa using hj); exact ⟨c2, by simpa using g1, g2⟩
theorem outVs_length {gs : List (Root × Nat)} : ∀ {l l' : List V}, outVs gs l = some l' → l'.length = l.length
  | [], l', h => by simp only [outVs, Option.some.injEq] at h; subst h; rfl
  | c :: t, l', h => by
    simp only [outVs] at h
    obtain ⟨c1, h1, h2⟩ := Option.bind_eq_some_iff.1 h
    obtain ⟨t1, h3, rfl⟩ := map_some' h2
    simp [outVs_length h3]
mutual
theorem outV_clean {gs : List (Root × Nat)} : ∀ {c c' : V}, c.clean = true → c.outV gs = some c' → c'.clean = true
  | .one c, c', h, hi => by simp only [V.outV] at hi; obtain ⟨x, h1, rfl⟩ := map_some' hi; exact outC_clean (c := c) h h1
  | .agg cs, c', h, hi => by simp only [V.outV] at hi; obtain ⟨x, h1, rfl⟩ := map_some' hi; exact outL_clean (l := cs) h h1
  | .tup vs, c', h, hi => by simp only [V.outV] at hi; obtain ⟨x, h1, rfl⟩ := map_some' hi; exact outVs_clean (l := vs) h h1
theorem outVs_clean {gs : List (Root × Nat)} : ∀ {l l' : List V}, cleanVs l = true → outVs gs l = some l' → cleanVs l' = true
  | [], l', h, hi => by simp only [outVs, Option.some.injEq] at hi; subst hi; rfl
  | c :: t, l', h, hi => by
    simp only [outVs] at hi
    obtain ⟨c1, h1, h2⟩ := Option.bind_eq_some_iff.1 hi
    obtain ⟨t1, h3, rfl⟩ := map_some' h2
    simp only [cleanVs, Bool.and_eq_true] at h ⊢
    exact ⟨outV_clean h.1 h1, outVs_clean h.2 h3⟩
end
theorem outBs_get {gs : List (Root × Nat)} : ∀ {l l' : List (List C)} (j : Nat) {c' : List C}, outBs gs l = some l' → l'[j]? = some c' → ∃ c, l[j]? = some c ∧ outL gs c = some c'
  | [], l', j, c', h, hj => by simp only [outBs, Option.some.injEq] at h; subst h; simp at hj
  | c :: t, l', j, c', h, hj => by
    simp only [outBs] at h
    obtain ⟨c1, h1, h2⟩ := Option.bind_eq_some_iff.1 h
    obtain ⟨t1, h3, rfl⟩ := map_some' h2
    cases j with
    | zero => simp at hj; subst hj; exact ⟨c, rfl, h1⟩
    | succ j => obtain ⟨c2, g1, g2⟩ := outBs_get j h3 (by simpa using hj); exact ⟨c2, by simpa using g1, g2⟩
theorem outBs_length {gs : List (Root × Nat)} : ∀ {l l' : List (List C)}, outBs gs l = some l' → l'.length = l.length
  | [], l', h => by simp only [outBs, Option.some.injEq] at h; subst h; rfl
  | c :: t, l', h => by
    simp only [outBs] at h
    obtain ⟨c1, h1, h2⟩ := Option.bind_eq_some_iff.1 h
    obtain ⟨t1, h3, rfl⟩ := map_some' h2
    simp [outBs_length h3]
section
variable {nm : FuncId → Option Nat} {N : Nat} {a : Act} {w w' : World} {L Lc Lc' L2 : LabF} {γ2 : Key → Nat} {gs : List (Root × Nat)}
structure Back (w' : World) (Lc' L2 : LabF) (γ2 : Key → Nat) (gs : List (Root × Nat)) : Prop where
  imm : ∀ B, Lc' B = some .imm → L2 B = some .imm
  box : ∀ B (i : Nat) r g o, gs[i]? = some (r, g) → Lc' B = some (.box (.e i) o) → L2 B = some (.box r o)
  gen : ∀ (i : Nat) r g, gs[i]? = some (r, g) → g ≤ γ2 (.r r)
theorem RepC.back {k : Key} {j : Nat} {c : C} {v : Value} (hb : Back w' Lc' L2 γ2 gs) (h : RepC nm w' Lc' (fun _ => 0) k j c v) : ∀ {c' : C}, c.outC gs = some c' → c.clean = true → ∀ k' j', RepC nm w' L2 γ2 k' j' c' v := by
  have himm : ImmKept w' w' Lc' L2 := fun B hB => ⟨hb.imm B hB, rfl⟩
  induction h with
  | @d x v h =>
    intro c' hi hc k' j'
    simp only [C.outC, Option.some.injEq] at hi
    subst hi
    cases h with
    | plain h => exact .d (.plain (h.mono himm))
    | ownE => simp [C.clean] at hc
    | own => simp [C.clean] at hc
  | @ptr r g c v hv hg h =>
    intro c' hi hc k' j'
    cases r with
    | e i =>
      simp only [C.outC] at hi
      obtain ⟨⟨r', g'⟩, h1, rfl⟩ := map_some' hi
      obtain ⟨B, o, h2, h3⟩ := h (by omega)
      exact .ptr hv (hb.gen i r' g' h1) (fun _ => ⟨B, o, hb.box B i r' g' o h1 h2, h3⟩)
    | l i => simp [C.outC] at hi
    | g i => simp [C.outC] at hi
  | eptr => intro c' hi; simp [C.outC] at hi
  | pp hL hB h =>
    intro c' hi hc k' j'
    simp only [C.outC, Option.some.injEq] at hi
    subst hi
    refine .pp (hb.imm _ hL) hB (fun q x hx => ?_)
    obtain ⟨u, h1, h2⟩ := h q x hx
    exact ⟨u, h1, h2.mono himm⟩
  | view => intro c' hi; simp [C.outC] at hi
  | appd => intro c' hi; simp [C.outC] at hi
  | mp => intro c' hi; simp [C.outC] at hi
  | mref => intro c' hi; simp [C.outC] at hi
  | @fns f l v B o cap cur e fz val hf hL hB hcl hv h ih =>
    intro c' hi hc k' j'
    have hcl' := outC_clean hc hi
    simp only [C.outC] at hi
    obtain ⟨x', g1, g2⟩ := Option.bind_eq_some_iff.1 hi
    obtain ⟨y', g3, rfl⟩ := map_some' g2
    simp only [outL, Option.some.injEq] at g1
    subst g1
    simp only [C.clean, Bool.and_eq_true] at hcl'
    have hlen := outL_length g3
    refine .fns val (by rw [hlen]; exact hf) (hb.imm _ hL) hB hcl'.2 (by rw [hlen]; exact hv) ?_
    intro i x hx
    obtain ⟨c0, k1, k2⟩ := outL_get i g3 hx
    exact ih i c0 k1 k2 (cleanL_get hcl k1) _ _
  | @fn f first cap fid fs cs hft hf h1 h2 hcl h3 h4 ih3 ih4 =>
    intro c' hi hc k' j'
    have hcl' := outC_clean hc hi
    simp only [C.outC] at hi
    obtain ⟨x', g1, g2⟩ := Option.bind_eq_some_iff.1 hi
    obtain ⟨y', g3, rfl⟩ := map_some' g2
    simp only [C.clean, Bool.and_eq_true] at hcl'
    refine .fn hft hf (by rw [outL_length g1]; exact h1) (by rw [outL_length g3]; exact h2) hcl' ?_ ?_
    · intro i x u hx hu
      obtain ⟨c0, k1, k2⟩ := outL_get i g1 hx
      exact ih3 i c0 u k1 hu k2 (cleanL_get hcl.1 k1) _ _
    · intro i x u hx hu
      obtain ⟨c0, k1, k2⟩ := outL_get i g3 hx
      exact ih4 i c0 u k1 hu k2 (cleanL_get hcl.2 k1) _ _
  | nilp => intro c' hi _ _ _; simp only [C.outC, Option.some.injEq] at hi; subst hi; exact .nilp
  | nilf => intro c' hi _ _ _; simp only [C.outC, Option.some.injEq] at hi; subst hi; exact .nilf
  | nili => intro c' hi _ _ _; simp only [C.outC, Option.some.injEq] at hi; subst hi; exact .nili
  | ifc => intro c' hi _ _ _; simp only [C.outC, Option.some.injEq] at hi; subst hi; exact .ifc
  | bld => intro c' hi hc; simp [C.clean] at hc
  | dead => intro c' hi _ _ _; simp only [C.outC, Option.some.injEq] at hi; subst hi; exact .dead
theorem outC_bld {gs : List (Root × Nat)} {c c' : C} (hi : c.outC gs = some c') {B o k : Nat} {e : TypeId} {n : Nat} {v : Value} (h : BldOk c B o k e n v) : BldOk c' B o k e n v := by
  cases c' with
  | bld t =>
    cases c with
    | bld t' => simp only [C.outC, Option.some.injEq, C.bld.injEq] at hi; subst hi; exact h
    | ptr r g c =>
      cases r with
      | e i => simp only [C.outC] at hi; obtain ⟨i, _, h2⟩ := map_some' hi; cases h2
      | l i => simp [C.outC] at hi
      | g i => simp [C.outC] at hi
    | fn f a b => simp only [C.outC] at hi; obtain ⟨_, _, h2⟩ := Option.bind_eq_some_iff.1 hi; obtain ⟨_, _, h3⟩ := map_some' h2; cases h3
    | _ => simp [C.outC] at hi
  | _ => trivial
theorem RepC.backOwn {k k' : Key} {j : Nat} {c : C} {v : Value} (hb : Back w' Lc' L2 γ2 gs) (h : RepC nm w' Lc' (fun _ => 0) k j c v) {c' : C} (hi : c.outC gs = some c')
    (hrow : ∀ x, c = .d x → ∀ B q o, q.k = k → q.j = j → Lc' B = some (.row q o) → L2 B = some (.row ⟨k', j, q.p⟩ o)) (hkk : (∃ r c, k = .b r c) → ∃ r c, k' = .b r c := by first | exact fun h => h | exact fun _ => ⟨_, _, rfl⟩ | (rintro ⟨r, c, h⟩; cases h; done)) : RepC nm w' L2 γ2 k' j c' v := by
  cases c with
  | d x =>
    simp only [C.outC, Option.some.injEq] at hi
    subst hi
    cases h with
    | d h =>
      exact .d (RepD.move (fun q => ⟨k', j, q.p⟩) (fun q => q.k = k ∧ q.j = j) (fun _ _ _ h => h) (fun _ _ _ _ => rfl) (fun B hB => ⟨hb.imm B hB, rfl⟩) (fun B q o hq hL => ⟨hrow x rfl B q o hq.1 hq.2 hL, rfl⟩) h ⟨rfl, rfl⟩)
  | appd => simp [C.outC] at hi
  | mp => simp [C.outC] at hi
  | bld t =>
    simp only [C.outC, Option.some.injEq] at hi
    subst hi
    cases h with
    | bld hk hv => exact .bld (hkk hk) hv
  | _ => exact h.back hb hi (h.clean_of rfl) _ _
theorem RepV.back {x : V} {v : Value} (hb : Back w' Lc' L2 γ2 gs) (h : RepV nm w' Lc' (fun _ => 0) (.h 0) x v) : ∀ {x' : V}, x.outV gs = some x' → (∀ B q o, q.k = .h 0 → Lc' B = some (.row q o) → L2 B = some (.row q o)) → RepV nm w' L2 γ2 (.h 0) x' v := by
  induction h with
  | @one c v h =>
    intro x' hi hrow
    simp only [V.outV] at hi
    obtain ⟨c', h1, rfl⟩ := map_some' hi
    exact .one (h.backOwn hb h1 (fun x _ B q o h1 h2 h3 => by have := hrow B q o h1 h3; rw [this]; cases q; simp_all))
  | @agg cs vs hl h =>
    intro x' hi hrow
    simp only [V.outV] at hi
    obtain ⟨cs', h1, rfl⟩ := map_some' hi
    refine .agg (by rw [outL_length h1]; exact hl) (fun j c u hj hu => ?_)
    obtain ⟨c0, g1, g2⟩ := outL_get j h1 hj
    exact (h j c0 u g1 hu).backOwn hb g2 (fun x _ B q o h1 h2 h3 => by have := hrow B q o h1 h3; rw [this]; cases q; simp_all)
  | @tup vs us hl hcl h ih =>
    intro x' hi hrow
    simp only [V.outV] at hi
    obtain ⟨vs', h1, rfl⟩ := map_some' hi
    refine .tup (by rw [outVs_length h1]; exact hl) (outVs_clean hcl h1) (fun i x u hj hu => ?_)
    obtain ⟨c0, g1, g2⟩ := outVs_get i h1 hj
    exact ih i c0 u g1 hu g2 hrow
structure ExitS (S1 S2 : St) (rs : List Root) (bs2 : List (List C)) (ok : Nat → Nat → Bool) : Prop where
  len : bs2.length = rs.length
  cellE : ∀ (i : Nat) r (cs : List C), rs[i]? = some r → bs2[i]? = some cs → ∀ (c : Nat) x, cs[c]? = some x → S2.E (.b r c) = .one x
  out : ∀ (i : Nat) r (cs : List C), rs[i]? = some r → bs2[i]? = some cs → ∀ c, cs.length ≤ c → S2.E (.b r c) = .one .dead
  size : ∀ (i : Nat) r (cs : List C), rs[i]? = some r → bs2[i]? = some cs → boxN (S2.E (.r r)) = cs.length
  other : ∀ k, (∀ r c, k = .b r c → r ∉ rs) → (∀ r, k = .r r → r ∉ rs) → S2.E k = S1.E k
  cnt : ∀ k, S1.γ k ≤ S2.γ k
  wr : ∀ (i : Nat) r c, rs[i]? = some r → ok i c = true → S1.γ (.b r c) < S2.γ (.b r c)
  sameE : ∀ (i : Nat) r c, rs[i]? = some r → ok i c = false → ∀ x, S1.E (.b r c) ≠ .one (.d x)
  same : ∀ (i : Nat) r (cs : List C), rs[i]? = some r → bs2[i]? = some cs → ∀ (c : Nat) x, cs[c]? = some x → ok i c = false → ∀ y, x ≠ .d y
theorem exit_rel {S1 S2 : St} {rsI rs : List Root} {bs2 out : List (List C)} {ok : Nat → Nat → Bool} (R : Rel nm N S1 a w L) (hH : NoH L) (hnd : rs.Nodup) (hsub : ∃ t, rs = rsI ++ t) (hG : ∀ r ∈ rs, r.isG = false)
    (hnew : ∀ r ∈ rs, r ∉ rsI → S1.γ (.r r) < S2.γ (.r r) ∧ ∀ i, r ≠ .e i)
    (hLc : Lc = enterL rsI S1.E L) (hm : Mono w w' Lc Lc') (Rc : Rel nm 0 (boxesEnts 0 out) ⟨#[], []⟩ w' Lc') (X : ExitS S1 S2 rs bs2 ok) (hgs : ∀ i : Nat, (gs[i]?).map (·.1) = rs[i]?) (hgen : ∀ (i : Nat) r g, gs[i]? = some (r, g) → g ≤ S2.γ (.r r))
    (hbs : outBs gs out = some bs2) :
    Rel nm N S2 a w' (exitL rs ok w.heap.size L Lc Lc') ∧ Mono w w' L (exitL rs ok w.heap.size L Lc Lc') ∧ Back w' Lc' (exitL rs ok w.heap.size L Lc Lc') S2.γ gs ∧
      (∀ B q o, q.k = .h 0 → Lc' B = some (.row q o) → exitL rs ok w.heap.size L Lc Lc' B = some (.row q o)) := by
  have hnone : ∀ {B}, Lc B = none → B < w.heap.size → Lc' B = none ∧ w'.heap[B]? = w.heap[B]? := fun h1 h2 => hm.none _ h2 h1
  have hlt : ∀ {B l}, L B = some l → B < w.heap.size := by
    intro B l hB
    exact R.dom B l hB
  have hin : ∀ {B l}, Lc' B = some l → ¬ ((Lc B).isNone = true ∧ B < w.heap.size) := by
    rintro B l h ⟨h1, h2⟩
    rw [(hnone (by simpa using h1) h2).1] at h
    cases h
  have hback : Back w' Lc' (exitL rs ok w.heap.size L Lc Lc') S2.γ gs := by
    refine ⟨fun B hB => ?_, fun B i r g o hg hB => ?_, hgen⟩
    · unfold exitL; rw [if_neg (hin hB)]; simp [hB]
    · unfold exitL; rw [if_neg (hin hB)]
      have := hgs i
      rw [hg] at this
      simp only [Option.map_some] at this
      simp [hB, ← this]
  have hlim : ∀ B q o, q.k = .h 0 → Lc' B = some (.row q o) → exitL rs ok w.heap.size L Lc Lc' B = some (.row q o) := by
    intro B q o hq hB
    unfold exitL; rw [if_neg (hin hB)]
    obtain ⟨k, j, p⟩ := q
    simp only at hq
    subst hq
    simp [hB]
  have hrowb : ∀ {B i c j p o r}, rs[i]? = some r → ok i c = true → Lc' B = some (.row ⟨.b (.e i) c, j, p⟩ o) → exitL rs ok w.heap.size L Lc Lc' B = some (.row ⟨.b r c, j, p⟩ o) := by
    intro B i c j p o r hr hok hB
    unfold exitL; rw [if_neg (hin hB)]
    simp [hB, hr, hok]
  have hboxb : ∀ {B i o r}, rs[i]? = some r → Lc' B = some (.box (.e i) o) → exitL rs ok w.heap.size L Lc Lc' B = some (.box r o) := by
    intro B i o r hr hB
    unfold exitL; rw [if_neg (hin hB)]
    simp [hB, hr]
  have hidx : ∀ {r i}, rs[i]? = some r → rootIdx rs r 0 = some i := fun h => by have := rootIdx_of rs (i := 0) hnd h; rwa [Nat.zero_add] at this
  have hstayB : ∀ {B r o}, L B = some (.box r o) → r ∉ rs → exitL rs ok w.heap.size L Lc Lc' B = some (.box r o) ∧ Lc B = none := by
    intro B r o hB hr
    have hl : Lc B = none := by
      rw [hLc]
      simp only [enterL, hB]
      cases hx : rootIdx rsI r 0 with
      | none => rfl
      | some i =>
        obtain ⟨t, ht⟩ := hsub
        exact absurd (by rw [ht]; exact List.mem_append_left _ (List.mem_of_getElem? (rootIdx_inv rsI hx).2)) hr
    refine ⟨?_, hl⟩
    unfold exitL; rw [if_pos ⟨by rw [hl]; rfl, hlt hB⟩]
    simp [hB, hr]
  have hsubm : ∀ {r}, r ∈ rsI → r ∈ rs := fun h => by obtain ⟨t, ht⟩ := hsub; rw [ht]; exact List.mem_append_left _ h
  have hstayR : ∀ {B q o}, L B = some (.row q o) → (∀ (i : Nat) r c, rs[i]? = some r → q.k = .b r c → ok i c = false) →
      exitL rs ok w.heap.size L Lc Lc' B = some (.row q o) ∧ Lc B = none := by
    intro B q o hB h1
    have hq := hH B q o hB
    obtain ⟨k, j, p⟩ := q
    cases k with
    | s i =>
      have hl : Lc B = none := by rw [hLc]; simp [enterL, hB]
      refine ⟨?_, hl⟩
      unfold exitL; rw [if_pos ⟨by rw [hl]; rfl, hlt hB⟩]; simp [hB]
    | b r c =>
      have hl : Lc B = none := by
        rw [hLc]
        simp only [enterL, hB]
        cases hx : rootIdx rsI r 0 with
        | none => rfl
        | some i =>
          have hmem := hsubm (List.mem_of_getElem? (rootIdx_inv rsI hx).2)
          obtain ⟨i', hi'⟩ := List.getElem?_of_mem hmem
          have := X.sameE i' r c hi' (h1 i' r c hi' rfl)
          cases hE : S1.E (.b r c) with
          | one y => cases y <;> first | rfl | exact absurd hE (this _)
          | _ => rfl
      refine ⟨?_, hl⟩
      unfold exitL; rw [if_pos ⟨by rw [hl]; rfl, hlt hB⟩]
      simp only [hB]
      cases hx : rootIdx rs r 0 with
      | none => rfl
      | some i =>
        have := h1 i r c (rootIdx_inv rs hx).2 rfl
        simp [this]
    | _ => simp [Key.isPl] at hq
  have himm : ImmKept w w' L (exitL rs ok w.heap.size L Lc Lc') := fun B hB => by
    have h1 : Lc B = some .imm := by rw [hLc]; exact enterL_imm hB
    exact ⟨hback.imm B (hm.imm B h1).1, (hm.imm B h1).2⟩
  have hboxI : ∀ {B r o}, L B = some (.box r o) → r ∈ rsI → exitL rs ok w.heap.size L Lc Lc' B = some (.box r o) := by
    intro B r o hB hr
    obtain ⟨i, hi⟩ := List.getElem?_of_mem hr
    obtain ⟨t, ht⟩ := hsub
    have hi2 : rs[i]? = some r := by rw [ht, List.getElem?_append_left (List.getElem?_eq_some_iff.1 hi).1]; exact hi
    have hnd' : rsI.Nodup := by rw [ht] at hnd; exact (List.nodup_append.1 hnd).1
    have h1 : Lc B = some (.box (.e i) o) := by
      rw [hLc]
      exact enterL_box hB (by have := rootIdx_of rsI (i := 0) hnd' hi; rwa [Nat.zero_add] at this)
    exact hboxb hi2 (hm.ebox B i o h1)
  have hheap : ∀ {B l}, L B = some l → Lc B = none → w'.heap[B]? = w.heap[B]? := fun h1 h2 => (hnone h2 (hlt h1)).2
  have hokS : ∀ {k : Key}, S2.γ k = S1.γ k → ∀ (i : Nat) r c, rs[i]? = some r → k = .b r c → ok i c = false := by
    intro k hk i r c hi he
    subst he
    cases hok : ok i c with
    | false => rfl
    | true => have := X.wr i r c hi hok; omega
  have hst : Step w w' L (exitL rs ok w.heap.size L Lc Lc') S1.γ S2.γ := by
    refine ⟨himm, X.cnt, ?_, ?_, ?_⟩
    · intro B q o hq hk hB
      obtain ⟨h1, h2⟩ := hstayR hB (hokS hk)
      exact ⟨h1, fun cur e fz hc => ⟨cur, (hheap hB h2).trans hc, rfl⟩⟩
    · intro B q o hq hk _ hB
      obtain ⟨h1, h2⟩ := hstayR hB (hokS hk)
      exact hheap hB h2
    · intro B r o hk hB
      by_cases hr : r ∈ rs
      · by_cases hrI : r ∈ rsI
        · exact hboxI hB hrI
        · have := (hnew r hr hrI).1; omega
      · exact (hstayB hB hr).1
  have hxb : ∀ {B l}, exitL rs ok w.heap.size L Lc Lc' B = some l →
      (Lc B = none ∧ L B = some l ∧ B < w.heap.size ∧ (∀ i r c j p o, l = .row ⟨.b r c, j, p⟩ o → rs[i]? = some r → ok i c = false) ∧ ∀ r o, l = .box r o → r ∉ rs) ∨
      (l = .imm ∧ Lc' B = some .imm) ∨ (∃ (i : Nat) (r : Root) (o : Nat), l = .box r o ∧ rs[i]? = some r ∧ Lc' B = some (.box (.e i) o)) ∨
      (∃ (i : Nat) (r : Root) (c j : Nat) (p : List (Nat × Nat)) (o : Nat), l = .row ⟨.b r c, j, p⟩ o ∧ rs[i]? = some r ∧ ok i c = true ∧ Lc' B = some (.row ⟨.b (.e i) c, j, p⟩ o)) ∨
      (∃ (j : Nat) (p : List (Nat × Nat)) (o : Nat), l = .row ⟨.h 0, j, p⟩ o ∧ Lc' B = some (.row ⟨.h 0, j, p⟩ o)) := by
    intro B l h
    unfold exitL at h
    split at h
    · rename_i hc
      left
      have hn : Lc B = none := by simpa using hc.1
      split at h
      · rename_i r c j p o hL
        split at h
        · rename_i i hi
          split at h
          · cases h
          · rename_i hok
            simp only [Option.some.injEq] at h
            subst h
            refine ⟨hn, hL, hc.2, ?_, by intro _ _ h; cases h⟩
            intro i' r' c' j' p' o' he hi'
            simp only [Lab.row.injEq, Place.mk.injEq, Key.b.injEq] at he
            obtain ⟨⟨⟨rfl, rfl⟩, rfl, rfl⟩, rfl⟩ := he
            have := hidx hi'
            rw [hi] at this
            simp only [Option.some.injEq] at this
            subst this
            simpa using hok
        · rename_i hi
          simp only [Option.some.injEq] at h
          subst h
          refine ⟨hn, hL, hc.2, ?_, by intro _ _ h; cases h⟩
          intro i' r' c' j' p' o' he hi'
          simp only [Lab.row.injEq, Place.mk.injEq, Key.b.injEq] at he
          obtain ⟨⟨⟨rfl, rfl⟩, rfl, rfl⟩, rfl⟩ := he
          have := hidx hi'
          rw [hi] at this
          cases this
      · rename_i r o hL
        split at h
        · cases h
        · rename_i hr
          simp only [Option.some.injEq] at h
          subst h
          refine ⟨hn, hL, hc.2, (by intro _ _ _ _ _ _ h; cases h), ?_⟩
          intro r' o' he
          simp only [Lab.box.injEq] at he
          obtain ⟨rfl, rfl⟩ := he
          simpa using hr
      · rename_i h1 h2
        refine ⟨hn, h, hc.2, ?_, ?_⟩
        · intro i r c j p o he; subst he; exact absurd h (h1 _ _ _ _ _)
        · intro r o he; subst he; exact absurd h (h2 _ _)
    · right
      split at h
      · simp only [Option.some.injEq] at h; exact .inl ⟨h.symm, ‹_›⟩
      · rename_i i o hL
        obtain ⟨r, h1, h2⟩ := map_some' h
        exact .inr (.inl ⟨i, r, o, h2, h1, hL⟩)
      · rename_i i c j p o hL
        split at h
        · rename_i r hr
          split at h
          · rename_i hok
            simp only [Option.some.injEq] at h
            exact .inr (.inr (.inl ⟨i, r, c, j, p, o, h.symm, hr, hok, hL⟩))
          · cases h
        · cases h
      · rename_i j p o hL
        simp only [Option.some.injEq] at h
        exact .inr (.inr (.inr ⟨j, p, o, h.symm, hL⟩))
      · cases h
  have hsame : ∀ {i i' : Nat} {r}, rs[i]? = some r → rs[i']? = some r → i = i' := by
    intro i i' r h1 h2
    have e1 := hidx h1
    have e2 := hidx h2
    rw [e1] at e2
    simpa using e2
  have hb2 : ∀ {i : Nat} {r}, rs[i]? = some r → ∃ cs cs0, bs2[i]? = some cs ∧ out[i]? = some cs0 ∧ outL gs cs0 = some cs ∧ cs.length = cs0.length := by
    intro i r hi
    have hl2 : i < bs2.length := by rw [X.len]; exact (List.getElem?_eq_some_iff.1 hi).1
    have h1 : bs2[i]? = some bs2[i] := List.getElem?_eq_getElem hl2
    obtain ⟨cs0, h2, h3⟩ := outBs_get i hbs h1
    exact ⟨bs2[i], cs0, h1, h2, h3, outL_length h3⟩
  refine ⟨⟨R.size, R.defers, ?_, ?_, ?_, ?_, ?_, ?_, ?_, ?_⟩, ?_, hback, hlim⟩
  · intro i
    rw [X.other (.s i) (by intro _ _ h; cases h) (by intro _ h; cases h)]
    refine (R.slot i).step hst (fun B q o hq hB => ?_)
    obtain ⟨h1, h2⟩ := hstayR hB (fun i r c _ h => by rw [hq] at h; cases h)
    rw [← hq, Place.at_self]
    exact ⟨h1, hheap hB h2⟩
  · intro r c x hx hxd
    by_cases hr : r ∈ rs
    · obtain ⟨i, hi⟩ := List.getElem?_of_mem hr
      obtain ⟨cs, cs0, h1, h2, h3, h4⟩ := hb2 hi
      by_cases hc : c < cs.length
      · have hcs : cs[c]? = some cs[c] := List.getElem?_eq_getElem hc
        have := X.cellE i r cs hi h1 c _ hcs
        rw [hx] at this
        simp only [V.one.injEq] at this
        rw [← this] at hcs
        obtain ⟨y, k1, k2⟩ := outL_get c h3 hcs
        have hyd : y ≠ .dead := by
          rintro rfl
          simp only [C.outC, Option.some.injEq] at k2
          exact hxd k2.symm
        have hio : i < out.length := (List.getElem?_eq_some_iff.1 h2).1
        have hg0 : out.getD i [] = cs0 := by rw [List.getD_eq_getElem?_getD, h2]; rfl
        have hE : (boxesEnts 0 out : St).E (.b (.e i) c) = .one y := by
          rw [boxes_E]
          simp only [hg0]
          rw [if_pos ⟨hio, by omega⟩]
          rw [List.getD_eq_getElem?_getD, k1]; rfl
        obtain ⟨B, o, cur, e, fz, v, m1, m2, m3, m4, m5, m6⟩ := Rc.cell (.e i) c y hE hyd
        rw [boxes_γ] at m5
        have hrep : RepC nm w' (exitL rs ok w.heap.size L Lc Lc') S2.γ (.b r c) 0 x v := by
          refine m5.backOwn hback k2 (fun z hz B' q o' hq hj hB' => ?_)
          have hok : ok i c = true := by
            cases hok : ok i c with
            | true => rfl
            | false =>
              subst hz
              simp only [C.outC, Option.some.injEq] at k2
              exact absurd k2.symm (X.same i r cs hi h1 c x hcs hok z)
          obtain ⟨k, j, p⟩ := q
          simp only at hq hj
          subst hq; subst hj
          exact hrowb hi hok hB'
        have hG' := hG r hr
        cases r with
        | g n => simp [Root.isG] at hG'
        | e n => exact ⟨B, o, cur, e, fz, v, hboxb hi m1, m2, m3, m4, hrep, outC_bld k2 m6⟩
        | l n => exact ⟨B, o, cur, e, fz, v, hboxb hi m1, m2, m3, m4, hrep, outC_bld k2 m6⟩
      · have := X.out i r cs hi h1 c (by omega)
        rw [hx] at this
        simp only [V.one.injEq] at this
        exact absurd this hxd
    · rw [X.other (.b r c) (by intro r' c' h; cases h; exact hr) (by intro _ h; cases h)] at hx
      refine (R.cell r c x hx hxd).step hst ?_ ?_
      · intro B q o hq hB
        obtain ⟨h1, h2⟩ := hstayR hB (fun i r' c' hi h => by rw [hq] at h; cases h; exact absurd (List.mem_of_getElem? hi) hr)
        exact ⟨h1, hheap hB h2⟩
      · intro B o hB
        obtain ⟨h1, h2⟩ := hstayB hB hr
        exact ⟨h1, fun cur e fz hc => ⟨cur, (hheap hB h2).trans hc, rfl, rfl⟩⟩
  · intro r c
    by_cases hr : r ∈ rs
    · obtain ⟨i, hi⟩ := List.getElem?_of_mem hr
      obtain ⟨cs, cs0, h1, h2, h3, h4⟩ := hb2 hi
      by_cases hc : c < cs.length
      · exact ⟨cs[c], X.cellE i r cs hi h1 c _ (List.getElem?_eq_getElem hc)⟩
      · exact ⟨.dead, X.out i r cs hi h1 c (by omega)⟩
    · rw [X.other (.b r c) (by intro r' c' h; cases h; exact hr) (by intro _ h; cases h)]
      exact R.bone r c
  · intro r c hc
    by_cases hr : r ∈ rs
    · obtain ⟨i, hi⟩ := List.getElem?_of_mem hr
      obtain ⟨cs, cs0, h1, h2, h3, h4⟩ := hb2 hi
      rw [X.size i r cs hi h1] at hc
      exact X.out i r cs hi h1 c hc
    · rw [X.other (.r r) (by intro _ _ h; cases h) (by intro r' h; cases h; exact hr)] at hc
      rw [X.other (.b r c) (by intro r' c' h; cases h; exact hr) (by intro _ h; cases h)]
      exact R.bound r c hc
  · intro r hg hpos
    by_cases hr : r ∈ rs
    · obtain ⟨i, hi⟩ := List.getElem?_of_mem hr
      obtain ⟨cs, cs0, h1, h2, h3, h4⟩ := hb2 hi
      rw [X.size i r cs hi h1] at hpos ⊢
      have hio : i < out.length := (List.getElem?_eq_some_iff.1 h2).1
      have hg0 : out.getD i [] = cs0 := by rw [List.getD_eq_getElem?_getD, h2]; rfl
      have hE : boxN ((boxesEnts 0 out : St).E (.r (.e i))) = cs.length := by
        rw [boxes_E]
        simp only [hg0]
        rw [if_pos hio, boxN_sizeV, h4]
      obtain ⟨B, o, cur, e, fz, m1, m2, m3, m4⟩ := Rc.room (.e i) rfl (by show 0 < boxN ((boxesEnts 0 out : St).E (.r (.e i))); rw [hE]; exact hpos)
      have m4' : o + cs.length ≤ cur.size := by rw [← hE]; exact m4
      exact ⟨B, o, cur, e, fz, hboxb hi m1, m2, m3, m4'⟩
    · rw [X.other (.r r) (by intro _ _ h; cases h) (by intro r' h; cases h; exact hr)] at hpos ⊢
      obtain ⟨B, o, cur, e, fz, m1, m2, m3, m4⟩ := R.room r hg hpos
      obtain ⟨h1, h2⟩ := hstayB m1 hr
      exact ⟨B, o, cur, e, fz, h1, (hheap m1 h2).trans m2, m3, m4⟩
  · intro B l hB
    rcases hxb hB with ⟨h1, h2, h3, _⟩ | ⟨_, h⟩ | ⟨_, _, _, _, _, h⟩ | ⟨_, _, _, _, _, _, _, _, _, h⟩ | ⟨_, _, _, _, h⟩
    · exact heap_lt (R.dom B l h2) (hheap h2 h1)
    all_goals exact Rc.dom B _ h
  · intro B B' pl o o' h1 h2
    rcases hxb h1 with ⟨a1, a2, a3, a4, _⟩ | ⟨a1, _⟩ | ⟨_, _, _, a1, _⟩ | ⟨i, r, c, j, p, o1, a1, a2, a3, a4⟩ | ⟨j, p, o1, a1, a2⟩
    · rcases hxb h2 with ⟨b1, b2, b3, b4, _⟩ | ⟨b1, _⟩ | ⟨_, _, _, b1, _⟩ | ⟨i, r, c, j, p, o1, b1, b2, b3, b4⟩ | ⟨j, p, o1, b1, b2⟩
      · exact R.rowInj B B' pl o o' a2 b2
      · cases b1
      · cases b1
      · simp only [Lab.row.injEq] at b1
        obtain ⟨rfl, rfl⟩ := b1
        have := a4 i r c j p o rfl b2
        rw [b3] at this; cases this
      · simp only [Lab.row.injEq] at b1
        obtain ⟨rfl, rfl⟩ := b1
        have := hH B _ o a2
        simp [Key.isPl] at this
    · cases a1
    · cases a1
    · simp only [Lab.row.injEq] at a1
      obtain ⟨rfl, rfl⟩ := a1
      rcases hxb h2 with ⟨b1, b2, b3, b4, _⟩ | ⟨b1, _⟩ | ⟨_, _, _, b1, _⟩ | ⟨i', r', c', j', p', o1', b1, b2, b3, b4⟩ | ⟨j', p', o1', b1, b2⟩
      · have := b4 i r c j p o' rfl a2
        rw [a3] at this; cases this
      · cases b1
      · cases b1
      · simp only [Lab.row.injEq, Place.mk.injEq, Key.b.injEq] at b1
        obtain ⟨⟨⟨rfl, rfl⟩, rfl, rfl⟩, rfl⟩ := b1
        obtain rfl := hsame a2 b2
        exact Rc.rowInj B B' _ _ _ a4 b4
      · simp only [Lab.row.injEq, Place.mk.injEq] at b1
        exact absurd b1.1.1 (by intro h; cases h)
    · simp only [Lab.row.injEq] at a1
      obtain ⟨rfl, rfl⟩ := a1
      rcases hxb h2 with ⟨b1, b2, b3, b4, _⟩ | ⟨b1, _⟩ | ⟨_, _, _, b1, _⟩ | ⟨i', r', c', j', p', o1', b1, b2, b3, b4⟩ | ⟨j', p', o1', b1, b2⟩
      · have := hH B' _ o' b2
        simp [Key.isPl] at this
      · cases b1
      · cases b1
      · simp only [Lab.row.injEq, Place.mk.injEq] at b1
        exact absurd b1.1.1 (by intro h; cases h)
      · simp only [Lab.row.injEq] at b1
        obtain ⟨b1, rfl⟩ := b1
        rw [← b1] at b2
        exact Rc.rowInj B B' _ _ _ a2 b2
  · intro B B' r o o' h1 h2
    rcases hxb h1 with ⟨a1, a2, a3, _, a5⟩ | ⟨a1, _⟩ | ⟨i, r1, o1, a1, a2, a3⟩ | ⟨_, _, _, _, _, _, a1, _⟩ | ⟨_, _, _, a1, _⟩
    · rcases hxb h2 with ⟨b1, b2, b3, _, b5⟩ | ⟨b1, _⟩ | ⟨i', r1', o1', b1, b2, b3⟩ | ⟨_, _, _, _, _, _, b1, _⟩ | ⟨_, _, _, b1, _⟩
      · exact R.boxInj B B' r o o' a2 b2
      · cases b1
      · simp only [Lab.box.injEq] at b1
        obtain ⟨rfl, rfl⟩ := b1
        exact absurd (List.mem_of_getElem? b2) (a5 r o rfl)
      · cases b1
      · cases b1
    · cases a1
    · simp only [Lab.box.injEq] at a1
      obtain ⟨rfl, rfl⟩ := a1
      rcases hxb h2 with ⟨b1, b2, b3, _, b5⟩ | ⟨b1, _⟩ | ⟨i', r1', o1', b1, b2, b3⟩ | ⟨_, _, _, _, _, _, b1, _⟩ | ⟨_, _, _, b1, _⟩
      · exact absurd (List.mem_of_getElem? a2) (b5 r o' rfl)
      · cases b1
      · simp only [Lab.box.injEq] at b1
        obtain ⟨rfl, rfl⟩ := b1
        obtain rfl := hsame a2 b2
        exact Rc.boxInj B B' _ _ _ a3 b3
      · cases b1
      · cases b1
    · cases a1
    · cases a1
  · refine ⟨hm.os, hm.tape, hm.output, hm.size, himm, ?_, ?_⟩
    · intro B hB hL
      have hl : Lc B = none := by rw [hLc]; simp [enterL, hL]
      refine ⟨?_, (hnone hl hB).2⟩
      unfold exitL; rw [if_pos ⟨by rw [hl]; rfl, hB⟩]; simp [hL]
    · intro B i o hB
      by_cases hr : (.e i) ∈ rs
      · by_cases hrI : (.e i) ∈ rsI
        · exact hboxI hB hrI
        · exact absurd rfl ((hnew _ hr hrI).2 i)
      · exact (hstayB hB hr).1
end
end
section
theorem same_eq {y x : C} (h : y.same x = true) : x = y ∧ ∃ r g c, x = .ptr r g c := by
  cases y <;> cases x <;> simp only [C.same, Bool.and_eq_true, decide_eq_true_eq, beq_iff_eq, Bool.false_eq_true] at h
  obtain ⟨⟨rfl, rfl⟩, rfl⟩ := h
  exact ⟨rfl, _, _, _, rfl⟩
theorem newWrs_E (S : St) (r : Root) : ∀ (cs ol : List C) (c0 : Nat) (ws : List Wr) (k : Key), cs.length = ol.length →
    ((∀ c, c < cs.length → k ≠ .b r (c0 + c)) → (S.wrs (newWrs r c0 cs ol ws)).E k = (S.wrs ws).E k ∧ (S.wrs (newWrs r c0 cs ol ws)).γ k = (S.wrs ws).γ k) ∧
    (∀ c x y, k = .b r (c0 + c) → cs[c]? = some x → ol[c]? = some y → y.same x = true → (S.wrs (newWrs r c0 cs ol ws)).E k = (S.wrs ws).E k ∧ (S.wrs (newWrs r c0 cs ol ws)).γ k = (S.wrs ws).γ k) ∧
    (∀ c x y, k = .b r (c0 + c) → cs[c]? = some x → ol[c]? = some y → y.same x = false → (S.wrs (newWrs r c0 cs ol ws)).E k = .one x ∧ (S.wrs ws).γ k < (S.wrs (newWrs r c0 cs ol ws)).γ k) ∧
    (S.wrs ws).γ k ≤ (S.wrs (newWrs r c0 cs ol ws)).γ k
  | [], ol, c0, ws, k, hl => by
    have : newWrs r c0 [] ol ws = ws := by cases ol <;> rfl
    rw [this]
    exact ⟨fun _ => ⟨rfl, rfl⟩, fun c x y _ h => by simp at h, fun c x y _ h => by simp at h, Nat.le_refl _⟩
  | x0 :: cs, [], c0, ws, k, hl => by simp at hl
  | x0 :: cs, y0 :: ol, c0, ws, k, hl => by
    have hl' : cs.length = ol.length := by simpa using hl
    obtain ⟨h1, h2, h3, h4⟩ := newWrs_E S r cs ol (c0 + 1) (if y0.same x0 then ws else { k := .b r c0, v := .one x0 } :: ws) k hl'
    simp only [newWrs]
    have hle : (S.wrs ws).γ k ≤ (S.wrs (if y0.same x0 then ws else { k := .b r c0, v := .one x0 } :: ws)).γ k := by
      split
      · exact Nat.le_refl _
      · exact St.γ_wr_le _ _ k
    have hsk : k ≠ .b r c0 → (S.wrs (if y0.same x0 then ws else { k := .b r c0, v := .one x0 } :: ws)).E k = (S.wrs ws).E k ∧ (S.wrs (if y0.same x0 then ws else { k := .b r c0, v := .one x0 } :: ws)).γ k = (S.wrs ws).γ k := by
      intro hne
      split
      · exact ⟨rfl, rfl⟩
      · simp only [St.wrs, St.E_wr, St.γ_wr, Ne.symm hne, if_false]; trivial
    have hrest : k = .b r c0 → ∀ c, c < cs.length → k ≠ .b r (c0 + 1 + c) := by
      intro hk c _ e
      rw [hk] at e
      simp only [Key.b.injEq, true_and] at e; omega
    have hsucc : ∀ c, c0 + (c + 1) = c0 + 1 + c := fun c => by omega
    refine ⟨?_, ?_, ?_, Nat.le_trans hle h4⟩
    · intro hne
      obtain ⟨g1, g2⟩ := h1 (fun c hc e => hne (c + 1) (by simpa using hc) (by rw [e, hsucc c]))
      obtain ⟨g3, g4⟩ := hsk (fun e => hne 0 (by simp) (by rw [e]; rfl))
      exact ⟨g1.trans g3, g2.trans g4⟩
    · intro c x y hk hx hy hs
      cases c with
      | zero =>
        simp at hx hy
        subst hx; subst hy
        obtain ⟨g1, g2⟩ := h1 (hrest hk)
        rw [hs] at g1 g2
        simp only [if_true] at g1 g2
        rw [hs]
        exact ⟨g1, g2⟩
      | succ c =>
        obtain ⟨g1, g2⟩ := h2 c x y (by rw [hk, hsucc c]) (by simpa using hx) (by simpa using hy) hs
        obtain ⟨g3, g4⟩ := hsk (by rw [hk]; intro e; simp only [Key.b.injEq, true_and] at e; omega)
        exact ⟨g1.trans g3, g2.trans g4⟩
    · intro c x y hk hx hy hs
      cases c with
      | zero =>
        simp at hx hy
        subst hx; subst hy
        obtain ⟨g1, g2⟩ := h1 (hrest hk)
        rw [hs] at g1 g2 ⊢
        simp only [Nat.add_zero] at hk
        subst hk
        simp only [Bool.false_eq_true, if_false, St.wrs, St.E_wr, St.γ_wr, if_true] at g1 g2 ⊢
        exact ⟨g1, by omega⟩
      | succ c =>
        obtain ⟨g1, g2⟩ := h3 c x y (by rw [hk, hsucc c]) (by simpa using hx) (by simpa using hy) hs
        exact ⟨g1, by omega⟩
theorem boxWrs_E (S : St) : ∀ (rs : List Root) (bs os : List (List C)) (ws : List Wr) (k : Key), rs.Nodup → bs.length = rs.length → os.length = rs.length →
    (∀ (i : Nat) cs ol, bs[i]? = some cs → os[i]? = some ol → cs.length = ol.length) →
    ((∀ (i : Nat) r cs c, rs[i]? = some r → bs[i]? = some cs → c < cs.length → k ≠ .b r c) → (S.wrs (boxWrs rs bs os ws)).E k = (S.wrs ws).E k ∧ (S.wrs (boxWrs rs bs os ws)).γ k = (S.wrs ws).γ k) ∧
    (∀ (i : Nat) r cs ol c x y, rs[i]? = some r → bs[i]? = some cs → os[i]? = some ol → k = .b r c → cs[c]? = some x → ol[c]? = some y → y.same x = true → (S.wrs (boxWrs rs bs os ws)).E k = (S.wrs ws).E k ∧ (S.wrs (boxWrs rs bs os ws)).γ k = (S.wrs ws).γ k) ∧
    (∀ (i : Nat) r cs ol c x y, rs[i]? = some r → bs[i]? = some cs → os[i]? = some ol → k = .b r c → cs[c]? = some x → ol[c]? = some y → y.same x = false → (S.wrs (boxWrs rs bs os ws)).E k = .one x ∧ (S.wrs ws).γ k < (S.wrs (boxWrs rs bs os ws)).γ k) ∧
    (S.wrs ws).γ k ≤ (S.wrs (boxWrs rs bs os ws)).γ k
  | [], bs, os, ws, k, _, _, _, _ => by
    have : boxWrs [] bs os ws = ws := by cases bs <;> cases os <;> rfl
    rw [this]
    exact ⟨fun _ => ⟨rfl, rfl⟩, fun i r cs ol c x y h => by simp at h, fun i r cs ol c x y h => by simp at h, Nat.le_refl _⟩
  | r0 :: rs, [], os, ws, k, _, h, _, _ => by simp at h
  | r0 :: rs, cs0 :: bs, [], ws, k, _, _, h, _ => by simp at h
  | r0 :: rs, cs0 :: bs, ol0 :: os, ws, k, hnd, hb, ho, hl => by
    obtain ⟨hnr, hnd'⟩ := List.nodup_cons.1 hnd
    obtain ⟨h1, h2, h3, h4⟩ := boxWrs_E S rs bs os (newWrs r0 0 cs0 ol0 ws) k hnd' (by simpa using hb) (by simpa using ho) (fun i cs ol h1 h2 => hl (i + 1) cs ol (by simpa using h1) (by simpa using h2))
    obtain ⟨g1, g2, g3, g4⟩ := newWrs_E S r0 cs0 ol0 0 ws k (hl 0 cs0 ol0 rfl rfl)
    simp only [Nat.zero_add] at g1 g2 g3
    simp only [boxWrs]
    have hfst : ∀ c, k = .b r0 c → (S.wrs (boxWrs rs bs os (newWrs r0 0 cs0 ol0 ws))).E k = (S.wrs (newWrs r0 0 cs0 ol0 ws)).E k ∧ (S.wrs (boxWrs rs bs os (newWrs r0 0 cs0 ol0 ws))).γ k = (S.wrs (newWrs r0 0 cs0 ol0 ws)).γ k := by
      intro c hk
      refine h1 (fun i r cs c' hr _ _ e => ?_)
      rw [hk] at e
      simp only [Key.b.injEq] at e
      exact hnr (e.1 ▸ List.mem_of_getElem? hr)
    have hlater : ∀ (i : Nat) r c, rs[i]? = some r → k = .b r c → (S.wrs (newWrs r0 0 cs0 ol0 ws)).E k = (S.wrs ws).E k ∧ (S.wrs (newWrs r0 0 cs0 ol0 ws)).γ k = (S.wrs ws).γ k := by
      intro i r c hr hk
      refine g1 (fun c' _ e => ?_)
      rw [hk] at e
      simp only [Key.b.injEq] at e
      exact hnr (e.1 ▸ List.mem_of_getElem? hr)
    refine ⟨?_, ?_, ?_, Nat.le_trans g4 h4⟩
    · intro hne
      obtain ⟨a1, a2⟩ := h1 (fun i r cs c hr hc hlt => hne (i + 1) r cs c (by simpa using hr) (by simpa using hc) hlt)
      obtain ⟨a3, a4⟩ := g1 (fun c hc => hne 0 r0 cs0 c rfl rfl hc)
      exact ⟨a1.trans a3, a2.trans a4⟩
    · intro i r cs ol c x y hr hc ho' hk hx hy hs
      cases i with
      | zero =>
        simp at hr hc ho'
        subst hr; subst hc; subst ho'
        obtain ⟨a1, a2⟩ := hfst c hk
        obtain ⟨a3, a4⟩ := g2 c x y hk hx hy hs
        exact ⟨a1.trans a3, a2.trans a4⟩
      | succ i =>
        simp only [List.getElem?_cons_succ] at hr hc ho'
        obtain ⟨a1, a2⟩ := h2 i r cs ol c x y hr hc ho' hk hx hy hs
        obtain ⟨a3, a4⟩ := hlater i r c hr hk
        exact ⟨a1.trans a3, a2.trans a4⟩
    · intro i r cs ol c x y hr hc ho' hk hx hy hs
      cases i with
      | zero =>
        simp at hr hc ho'
        subst hr; subst hc; subst ho'
        obtain ⟨a1, a2⟩ := hfst c hk
        obtain ⟨a3, a4⟩ := g3 c x y hk hx hy hs
        exact ⟨a1.trans a3, by omega⟩
      | succ i =>
        simp only [List.getElem?_cons_succ] at hr hc ho'
        obtain ⟨a1, a2⟩ := h3 i r cs ol c x y hr hc ho' hk hx hy hs
        exact ⟨a1, by omega⟩
theorem lensEq_inv : ∀ {l m : List (List C)}, lensEq l m = true → l.length = m.length ∧ ∀ (i : Nat) x y, l[i]? = some x → m[i]? = some y → x.length = y.length
  | [], [], _ => ⟨rfl, fun i x y h => by simp at h⟩
  | [], _ :: _, h => by simp [lensEq] at h
  | _ :: _, [], h => by simp [lensEq] at h
  | a :: l, b :: m, h => by
    simp only [lensEq, Bool.and_eq_true, beq_iff_eq] at h
    obtain ⟨h1, h2⟩ := lensEq_inv h.2
    refine ⟨by simp [h1], fun i x y hx hy => ?_⟩
    cases i with
    | zero => simp at hx hy; subst hx; subst hy; exact h.1
    | succ i => exact h2 i x y (by simpa using hx) (by simpa using hy)
theorem gensOf_inv {S : St} : ∀ {rs : List Root} {gs : List (Root × Nat)}, (gensOf rs).run S = some gs → gs = rs.map fun r => (r, S.γ (.r r))
  | [], gs, h => by simp only [gensOf] at h; rw [Q.run_pure_some h]; rfl
  | r :: rs, gs, h => by
    simp only [gensOf] at h
    have h1 := Q.run_at_some h
    clear h
    obtain ⟨l, h2, h3⟩ := Q.run_bind_some h1
    have h4 := Q.run_pure_some h3
    rw [h4, gensOf_inv h2]
    rfl
def okF (bs bs2 : List (List C)) (i c : Nat) : Bool :=
  match (bs[i]?).bind (·[c]?), (bs2[i]?).bind (·[c]?) with
  | some y, some x => !(y.same x)
  | _, _ => false
theorem exitB {S0 : St} {ws : List Wr} {rs : List Root} {bs bs2 : List (List C)} (hnd : rs.Nodup) (hl : bs.length = rs.length) (hl2 : bs2.length = rs.length) (he : lensEq bs2 bs = true)
    (hlive : ∀ r ∈ rs, LiveR S0 ws r)
    (hb : ∀ (k : Nat) r cs, rs[k]? = some r → bs[k]? = some cs → cs.length = boxN (S0.E (.r r)) ∧ (∀ (j : Nat) x, cs[j]? = some x → (S0.wrs ws).E (.b r j) = .one x))
    (hbound : ∀ r c, boxN ((S0.wrs ws).E (.r r)) ≤ c → (S0.wrs ws).E (.b r c) = .one .dead) :
    ExitS (S0.wrs ws) (S0.wrs (boxWrs rs bs2 bs ws)) rs bs2 (okF bs bs2) := by
  obtain ⟨_, hlen⟩ := lensEq_inv he
  have W := fun k => boxWrs_E S0 rs bs2 bs ws k hnd hl2 hl (fun i cs ol h1 h2 => hlen i cs ol h1 h2)
  have hidx : ∀ {i i' : Nat} {r}, rs[i]? = some r → rs[i']? = some r → i = i' := fun {i i' r} h1 h2 => by
    have e1 := rootIdx_of rs (i := 0) hnd h1
    have e2 := rootIdx_of rs (i := 0) hnd h2
    rw [e1] at e2
    simpa using e2
  have hold : ∀ {i : Nat} {r}, rs[i]? = some r → ∃ ol, bs[i]? = some ol := fun {i r} h => ⟨bs[i]'(by rw [hl]; exact (List.getElem?_eq_some_iff.1 h).1), List.getElem?_eq_getElem _⟩
  have hnewb : ∀ {i : Nat} {r}, rs[i]? = some r → ∃ ol, bs2[i]? = some ol := fun {i r} h => ⟨bs2[i]'(by rw [hl2]; exact (List.getElem?_eq_some_iff.1 h).1), List.getElem?_eq_getElem _⟩
  have hS1r : ∀ {i : Nat} {r ol}, rs[i]? = some r → bs[i]? = some ol → boxN ((S0.wrs ws).E (.r r)) = ol.length := by
    intro i r ol h1 h2
    rw [getWr_E, (hlive r (List.mem_of_getElem? h1)).1, (hb i r ol h1 h2).1]; rfl
  refine ⟨hl2, ?_, ?_, ?_, ?_, fun k => (W k).2.2.2, ?_, ?_, ?_⟩
  · intro i r cs hr hc c x hx
    obtain ⟨ol, ho⟩ := hold hr
    have hll := hlen i cs ol hc ho
    have hcl : c < ol.length := by rw [← hll]; exact (List.getElem?_eq_some_iff.1 hx).1
    have hy : ol[c]? = some ol[c] := List.getElem?_eq_getElem hcl
    cases hs : (ol[c]).same x with
    | true =>
      rw [((W (.b r c)).2.1 i r cs ol c x _ hr hc ho rfl hx hy hs).1, (hb i r ol hr ho).2 c _ hy]
      rw [(same_eq hs).1]
    | false => exact ((W (.b r c)).2.2.1 i r cs ol c x _ hr hc ho rfl hx hy hs).1
  · intro i r cs hr hc c hle
    obtain ⟨ol, ho⟩ := hold hr
    have hll := hlen i cs ol hc ho
    rw [((W (.b r c)).1 (fun i' r' cs' c' hr' hc' hlt e => by
      cases e
      obtain rfl := hidx hr hr'
      rw [hc] at hc'
      cases hc'
      omega)).1]
    exact hbound r c (by rw [hS1r hr ho]; omega)
  · intro i r cs hr hc
    obtain ⟨ol, ho⟩ := hold hr
    have hll := hlen i cs ol hc ho
    rw [((W (.r r)).1 (fun _ _ _ _ _ _ _ e => by cases e)).1, hS1r hr ho, hll]
  · intro k h1 h2
    exact ((W k).1 (fun i r cs c hr _ _ e => h1 r c e (List.mem_of_getElem? hr))).1
  · intro i r c hr hok
    obtain ⟨ol, ho⟩ := hold hr
    obtain ⟨cs, hc⟩ := hnewb hr
    simp only [okF, ho, hc, Option.bind_some] at hok
    cases hy : ol[c]? with
    | none => simp [hy] at hok
    | some y =>
      cases hx : cs[c]? with
      | none => simp [hy, hx] at hok
      | some x =>
        simp only [hy, hx, Bool.not_eq_true'] at hok
        exact ((W (.b r c)).2.2.1 i r cs ol c x y hr hc ho rfl hx hy hok).2
  · intro i r c hr hok x hE
    obtain ⟨ol, ho⟩ := hold hr
    obtain ⟨cs, hc⟩ := hnewb hr
    simp only [okF, ho, hc, Option.bind_some] at hok
    have hll := hlen i cs ol hc ho
    cases hy : ol[c]? with
    | none =>
      have := hbound r c (by rw [hS1r hr ho]; exact List.getElem?_eq_none_iff.1 hy)
      rw [this] at hE; cases hE
    | some y =>
      have hcl : c < cs.length := by rw [hll]; exact (List.getElem?_eq_some_iff.1 hy).1
      have hx : cs[c]? = some cs[c] := List.getElem?_eq_getElem hcl
      simp only [hy, hx, Bool.not_eq_false'] at hok
      obtain ⟨h1, r', g', c', h2⟩ := same_eq hok
      rw [(hb i r ol hr ho).2 c y hy, ← h1, h2] at hE
      cases hE
  · intro i r cs hr hc c x hx hok y
    obtain ⟨ol, ho⟩ := hold hr
    simp only [okF, ho, hc, Option.bind_some, hx] at hok
    have hll := hlen i cs ol hc ho
    have hcl : c < ol.length := by rw [← hll]; exact (List.getElem?_eq_some_iff.1 hx).1
    have hy : ol[c]? = some ol[c] := List.getElem?_eq_getElem hcl
    simp only [hy, Bool.not_eq_false'] at hok
    obtain ⟨h1, r', g', c', h2⟩ := same_eq hok
    rw [h2]; intro h; cases h
end
section
theorem exitC {S0 : St} {ws : List Wr} {rs : List Root} {bs bs2 : List (List C)} {dst : Nat} (hnd : rs.Nodup) (hl : bs.length = rs.length) (hl2 : bs2.length = rs.length + 1) (he : lensEq (bs2.take rs.length) bs = true)
    (hlive : ∀ r ∈ rs, LiveR S0 ws r) (hne : (Root.l dst) ∉ rs)
    (hb : ∀ (k : Nat) r cs, rs[k]? = some r → bs[k]? = some cs → cs.length = boxN (S0.E (.r r)) ∧ (∀ (j : Nat) x, cs[j]? = some x → (S0.wrs ws).E (.b r j) = .one x))
    (hbound : ∀ r c, boxN ((S0.wrs ws).E (.r r)) ≤ c → (S0.wrs ws).E (.b r c) = .one .dead)
    (hn : boxN ((S0.wrs ws).E (.r (.l dst))) = 0 ∨ boxN ((S0.wrs ws).E (.r (.l dst))) = (bs2.getD rs.length []).length) {k0 : Wr} (hk0 : k0 = { k := .r (.l dst), v := sizeV (bs2.getD rs.length []).length }) :
    ExitS (S0.wrs ws) (S0.wrs (cellWrs (.l dst) 0 (bs2.getD rs.length []) (k0 :: boxWrs rs bs2 bs ws))) (rs ++ [.l dst]) bs2
      (fun i c => if i < rs.length then okF bs (bs2.take rs.length) i c else decide (c < (bs2.getD rs.length []).length)) ∧
    (S0.wrs ws).γ (.r (.l dst)) < (S0.wrs (cellWrs (.l dst) 0 (bs2.getD rs.length []) (k0 :: boxWrs rs bs2 bs ws))).γ (.r (.l dst)) := by
  have htl : (bs2.take rs.length).length = rs.length := by simp [hl2]
  have X := exitB (bs2 := bs2.take rs.length) hnd hl htl he hlive hb hbound
  have hbw : boxWrs rs bs2 bs ws = boxWrs rs (bs2.take rs.length) bs ws := by
    clear X htl he hb hlive hnd hne hn hk0 hbound
    induction rs generalizing bs bs2 ws with
    | nil => cases bs2 <;> cases bs <;> simp [boxWrs]
    | cons r rs ih =>
      cases bs2 with
      | nil => simp at hl2
      | cons b bs2 =>
        cases bs with
        | nil => simp at hl
        | cons o bs =>
          simp only [boxWrs, List.length_cons, List.take_succ_cons]
          exact ih (by simpa using hl) (by simpa using hl2)
  rw [hbw]
  generalize hW : boxWrs rs (bs2.take rs.length) bs ws = W at X ⊢
  generalize hnb : bs2.getD rs.length [] = nb at hn hk0 ⊢
  have hnb' : bs2[rs.length]? = some nb := by rw [← hnb]; exact getD_some (by omega)
  have K := fun k => cellWrs_E S0 (.l dst) nb 0 (k0 :: W) k
  simp only [Nat.zero_add] at K
  have k0E : ∀ k, k ≠ .r (.l dst) → (S0.wrs (k0 :: W)).E k = (S0.wrs W).E k ∧ (S0.wrs (k0 :: W)).γ k = (S0.wrs W).γ k := by
    intro k hk
    subst hk0
    simp only [St.wrs, St.E_wr, St.γ_wr, Ne.symm hk, if_false]; trivial
  have k0S : (S0.wrs (k0 :: W)).E (.r (.l dst)) = sizeV nb.length ∧ (S0.wrs W).γ (.r (.l dst)) < (S0.wrs (k0 :: W)).γ (.r (.l dst)) := by
    subst hk0
    simp [St.wrs, St.E_wr, St.γ_wr]
  have Kx : ∀ k, (∀ c, k ≠ .b (.l dst) c) → k ≠ .r (.l dst) → (S0.wrs (cellWrs (.l dst) 0 nb (k0 :: W))).E k = (S0.wrs W).E k ∧ (S0.wrs (cellWrs (.l dst) 0 nb (k0 :: W))).γ k = (S0.wrs W).γ k := by
    intro k h1 h2
    obtain ⟨a1, a2⟩ := (K k).2.1 (fun c _ => h1 c)
    obtain ⟨b1, b2⟩ := k0E k h2
    exact ⟨a1.trans b1, a2.trans b2⟩
  have split : ∀ {i : Nat} {r}, (rs ++ [Root.l dst])[i]? = some r → (i < rs.length ∧ rs[i]? = some r ∧ r ≠ .l dst) ∨ (i = rs.length ∧ r = .l dst) := by
    intro i r h
    by_cases hi : i < rs.length
    · rw [List.getElem?_append_left hi] at h
      exact .inl ⟨hi, h, fun e => hne (e ▸ List.mem_of_getElem? h)⟩
    · rw [List.getElem?_append_right (by omega)] at h
      cases hd : i - rs.length with
      | zero => simp [hd] at h; exact .inr ⟨by omega, h.symm⟩
      | succ n => simp [hd] at h
  have tk : ∀ {i : Nat} {cs}, i < rs.length → bs2[i]? = some cs → (bs2.take rs.length)[i]? = some cs := by
    intro i cs hi h
    rw [List.getElem?_take, if_pos hi]; exact h
  have oldD : ∀ c, (S0.wrs W).E (.b (.l dst) c) = (S0.wrs ws).E (.b (.l dst) c) := fun c => X.other _ (by intro r c' e; cases e; exact hne) (by intro _ e; cases e)
  refine ⟨⟨by simp [hl2], ?_, ?_, ?_, ?_, ?_, ?_, ?_, ?_⟩, ?_⟩
  · intro i r cs hr hc c x hx
    rcases split hr with ⟨h1, h2, h3⟩ | ⟨rfl, rfl⟩
    · rw [(Kx (.b r c) (by intro c' e; cases e; exact h3 rfl) (by intro e; cases e)).1]
      exact X.cellE i r cs h2 (tk h1 hc) c x hx
    · rw [hnb'] at hc; cases hc
      exact (K (.b (.l dst) c)).1 c x rfl hx
  · intro i r cs hr hc c hle
    rcases split hr with ⟨h1, h2, h3⟩ | ⟨rfl, rfl⟩
    · rw [(Kx (.b r c) (by intro c' e; cases e; exact h3 rfl) (by intro e; cases e)).1]
      exact X.out i r cs h2 (tk h1 hc) c hle
    · rw [hnb'] at hc; cases hc
      rw [((K (.b (.l dst) c)).2.1 (fun c' hc' e => by cases e; omega)).1, (k0E _ (by intro e; cases e)).1, oldD]
      exact hbound _ _ (by omega)
  · intro i r cs hr hc
    rcases split hr with ⟨h1, h2, h3⟩ | ⟨rfl, rfl⟩
    · rw [(Kx (.r r) (by intro c' e; cases e) (by intro e; cases e; exact h3 rfl)).1]
      exact X.size i r cs h2 (tk h1 hc)
    · rw [hnb'] at hc; cases hc
      rw [((K (.r (.l dst))).2.1 (fun c' hc' e => by cases e)).1, k0S.1, boxN_sizeV]
  · intro k h1 h2
    have m : Root.l dst ∈ rs ++ [Root.l dst] := by simp
    rw [(Kx k (fun c e => h1 _ c e m) (fun e => h2 _ e m)).1]
    exact X.other k (fun r c e hr => h1 r c e (by simp [hr])) (fun r e hr => h2 r e (by simp [hr]))
  · intro k
    refine Nat.le_trans (X.cnt k) (Nat.le_trans ?_ (K k).2.2.2)
    by_cases hk : k = .r (.l dst)
    · subst hk; omega
    · rw [(k0E k hk).2]; exact Nat.le_refl _
  · intro i r c hr hok
    rcases split hr with ⟨h1, h2, h3⟩ | ⟨rfl, rfl⟩
    · rw [if_pos h1] at hok
      rw [(Kx (.b r c) (by intro c' e; cases e; exact h3 rfl) (by intro e; cases e)).2]
      exact X.wr i r c h2 hok
    · rw [if_neg (by omega)] at hok
      have := (K (.b (.l dst) c)).2.2.1 c (by simpa using hok) rfl
      rw [(k0E _ (by intro e; cases e)).2] at this
      have := X.cnt (.b (.l dst) c)
      omega
  · intro i r c hr hok x hE
    rcases split hr with ⟨h1, h2, h3⟩ | ⟨rfl, rfl⟩
    · rw [if_pos h1] at hok
      exact X.sameE i r c h2 hok x hE
    · rw [if_neg (by omega)] at hok
      have hc : nb.length ≤ c := by simpa using hok
      rw [hbound (.l dst) c (by omega)] at hE
      cases hE
  · intro i r cs hr hc c x hx hok y
    rcases split hr with ⟨h1, h2, h3⟩ | ⟨rfl, rfl⟩
    · rw [if_pos h1] at hok
      exact X.same i r cs h2 (tk h1 hc) c x hx hok y
    · rw [if_neg (by omega)] at hok
      rw [hnb'] at hc; cases hc
      have : c < nb.length := (List.getElem?_eq_some_iff.1 hx).1
      simp at hok
      omega
  · rw [((K (.r (.l dst))).2.1 (fun c' hc' e => by cases e)).2]
    have := X.cnt (.r (.l dst))
    omega
def FnTo (P : Program) (fid : FuncId) (args : Array Value) (w : World) (R : Value → World → Prop) : Prop :=
  match (callFunc fid args).run P w with
  | .ok (.value v) w' => R v w'
  | .ok .skip w' => R undef w'
  | .ok (.enter f as) w' => Calls P f as w' fun e w'' => ∃ v, e = .returned v ∧ R v w''
  | .ok (.row row as) w' => Rows P row as w' R
  | _ => False
theorem FnTo.mono {P : Program} {fid : FuncId} {args : Array Value} {w : World} {R R' : Value → World → Prop} (h : FnTo P fid args w R) (hr : ∀ v w', R v w' → R' v w') : FnTo P fid args w R' := by
  unfold FnTo at h ⊢
  split at h
  · exact hr _ _ h
  · exact hr _ _ h
  · exact Calls.mono h (fun e w'' => by rintro ⟨v, rfl, hR⟩; exact ⟨v, rfl, hr _ _ hR⟩)
  · exact Rows.mono h hr
  · exact h.elim
def OSound (P : Program) (nm : FuncId → Option Nat) (G : Nat → Option Obj) (Cl : Oracle) : Prop :=
  ∀ {f : Nat} {vs : List V} {bx : List (List C)} {r : V} {out : List (List C)} {fid : FuncId}, Cl f vs bx = some (r, out) → nm fid = some f →
    ∀ {args : Array Value} {w : World} {L : LabF}, Rel nm vs.length (argEnts 0 vs ++ boxesEnts 0 bx) ⟨args, []⟩ w L → NoH L → GI G w L → (∀ B i o, L B = some (.box (.e i) o) → i < bx.length) →
      FnTo P fid args w fun v w' => ∃ L', Mono w w' L L' ∧ Rel nm 0 (boxesEnts 0 out) ⟨#[], []⟩ w' L' ∧ RepV nm w' L' (fun _ => 0) (.h 0) r v
section
variable {nm : FuncId → Option Nat} {N : Nat} {S : St} {a : Act} {w w' : World} {L L' : LabF} {γ γ' : Key → Nat}
theorem Rel.grown (h : Rel nm N S a w L) (hh : ∀ B l, L B = some l → w'.heap[B]? = w.heap[B]?) : Rel nm N S a w' L := by
  have hst : Step w w' L L S.γ S.γ := ⟨fun B hB => ⟨hB, hh B _ hB⟩, fun _ => Nat.le_refl _, fun B q o _ _ hB => ⟨hB, fun cur e fz hc => ⟨cur, (hh B _ hB).trans hc, rfl⟩⟩, fun B q o _ _ _ hB => hh B _ hB, fun _ _ _ _ hB => hB⟩
  refine ⟨h.size, h.defers, ?_, ?_, h.bone, h.bound, ?_, ?_, h.rowInj, h.boxInj⟩
  · intro i
    exact (h.slot i).step hst (fun B q o hq hB => by rw [← hq, Place.at_self]; exact ⟨hB, hh B _ hB⟩)
  · intro r c x hx hxd
    exact (h.cell r c x hx hxd).step hst (fun B q o _ hB => ⟨hB, hh B _ hB⟩) (fun B o hB => ⟨hB, fun cur e fz hc => ⟨cur, (hh B _ hB).trans hc, rfl, rfl⟩⟩)
  · intro r hg hr
    obtain ⟨B, o, cur, e, fz, h1, h2, h3, h4⟩ := h.room r hg hr
    exact ⟨B, o, cur, e, fz, h1, (hh B _ h1).trans h2, h3, h4⟩
  · intro B l hB
    exact heap_lt (h.dom B l hB) (hh B _ hB)
theorem RepC.flat {k k' : Key} {j j' : Nat} {c : C} {v : Value} (h : RepC nm w L γ k j c v) (hf : c.flat = true) : RepC nm w' L' γ' k' j' c v := by
  cases c with
  | d x =>
    cases h with
    | d h =>
      cases h with
      | plain h =>
        refine .d (.plain ?_)
        cases h <;> first | exact .int | exact .bool | exact .str | (simp [C.flat, D.flat] at hf)
      | ownE => simp [C.flat, D.flat] at hf
      | own => simp [C.flat, D.flat] at hf
  | _ => simp [C.flat] at hf
theorem flat_get : ∀ {l : List V} {i : Nat} {c : V}, V.flat.go l = true → l[i]? = some c → c.flat = true
  | [], _, _, _, h => by simp at h
  | x :: t, 0, c, h, hc => by simp only [V.flat.go, Bool.and_eq_true] at h; simp at hc; subst hc; exact h.1
  | x :: t, i + 1, c, h, hc => by simp only [V.flat.go, Bool.and_eq_true] at h; exact flat_get h.2 (by simpa using hc)
theorem RepV.flat {k k' : Key} {x : V} {v : Value} (h : RepV nm w L γ k x v) : x.flat = true → RepV nm w' L' γ' k' x v := by
  induction h with
  | one h => exact fun hf => .one (h.flat hf)
  | agg hl h => exact fun hf => .agg hl (fun j c u hj hu => (h j c u hj hu).flat (by simp only [V.flat, List.all_eq_true] at hf; exact hf c (List.mem_of_getElem? hj)))
  | tup hl hcl h ih => exact fun hf => .tup hl hcl (fun i x u hj hu => ih i x u hj hu (flat_get hf hj))
end
end
section
section
variable {nm : FuncId → Option Nat} {G : Nat → Option Obj} {P : Program} {Cl : Oracle}
def AllRep (nm : FuncId → Option Nat) (w : World) (L : LabF) (γ : Key → Nat) (l : List V) (us : Array Value) : Prop :=
  us.size = l.length ∧ cleanVs l = true ∧ ∀ (j : Nat) x u, l[j]? = some x → us[j]? = some u → RepV nm w L γ (.h 0) x u
theorem cleanVs_app : ∀ {l m : List V}, cleanVs l = true → cleanVs m = true → cleanVs (l ++ m) = true
  | [], m, _, h => h
  | x :: t, m, h1, h2 => by
    simp only [cleanVs, Bool.and_eq_true] at h1
    simp only [List.cons_append, cleanVs, Bool.and_eq_true]
    exact ⟨h1.1, cleanVs_app h1.2 h2⟩
theorem cleanVs_ones : ∀ {l : List C}, cleanL l = true → cleanVs (l.map V.one) = true
  | [], _ => rfl
  | x :: t, h => by
    simp only [cleanL, Bool.and_eq_true] at h
    simp only [List.map_cons, cleanVs, V.clean, Bool.and_eq_true]
    exact ⟨h.1, cleanVs_ones h.2⟩
theorem AllRep.app {w : World} {L : LabF} {γ : Key → Nat} {l m : List V} {us vs : Array Value} (h1 : AllRep nm w L γ l us) (h2 : AllRep nm w L γ m vs) : AllRep nm w L γ (l ++ m) (us ++ vs) := by
  refine ⟨by simp [h1.1, h2.1], cleanVs_app h1.2.1 h2.2.1, fun j x u hx hu => ?_⟩
  by_cases hj : j < l.length
  · rw [List.getElem?_append_left hj] at hx
    rw [Array.getElem?_append_left (by rw [h1.1]; exact hj)] at hu
    exact h1.2.2 j x u hx hu
  · rw [List.getElem?_append_right (by omega)] at hx
    rw [Array.getElem?_append_right (by rw [h1.1]; omega), h1.1] at hu
    exact h2.2.2 _ x u hx hu
theorem opsTo_fn {a : Act} {w : World} {o : Oper} {fid : FuncId} {args : Array Value} {R : Value → World → Prop} (he : (execOp a.eval o).run P w = (callFunc fid args).run P w) (h : FnTo P fid args w R) : OpsTo P a w o R := by
  unfold FnTo at h
  unfold OpsTo
  rw [he]
  split at h
  · rename_i hx; rw [hx]; exact h
  · rename_i hx; rw [hx]; exact h
  · rename_i hx; rw [hx]; exact h
  · rename_i hx; rw [hx]; exact h
  · exact h.elim
theorem callOk_of (hO : OSound P nm G Cl) : CallOk P nm G Cl := by
  intro N S a w L o d r c f F xs R hH hGi hd ho hcal hF hFok hlen hxs hr
  simp only [evOp] at hr
  obtain ⟨vf, h1, h2⟩ := Q.run_bind_some hr
  have hv := rd_val R hF h1
  split at h2
  rotate_left
  · cases h2
  rename_i n first cap
  clear hr
  obtain ⟨hft, h2⟩ := Q.run_guard_some h2
  have hft := isFn_lt hft
  obtain ⟨⟨vs, ws⟩, h3, h4⟩ := Q.run_bind_some h2
  clear h2
  have hfn := hv.one_inv
  generalize hfv : a.eval f = fv at hfn
  cases hfn with
  | fns val hf => exfalso; rcases hf with ⟨h, _⟩ | ⟨h, _⟩ <;> omega
  | @fn _ _ _ fid fs cs _ hf g1 g2 hcl g3 g4 =>
  obtain ⟨L1, M, hH1, hst, hl1, hcl1, hrep1⟩ := rdArgs_rep R xs c.args.toList (Mid.init R) hH hlen hxs h3
  dsimp only at h4
  have mv : ∀ {x : C} {u : Value}, x.clean = true → RepC nm w L S.γ (.h 0) 0 x u → RepC nm w L1 (S.wrs ws).γ (.h 0) 0 x u := by
    intro x u hx h
    exact h.step (k' := .h 0) (j' := 0) hst (fun B q o hq _ hB => by have := hH B q o hB; rw [hq] at this; simp [Key.isPl] at this)
  have rep : AllRep nm w L1 (S.wrs ws).γ (first.map .one ++ vs ++ cap.map .one) (fs ++ c.args.map a.eval ++ cs) := by
    refine AllRep.app (AllRep.app ⟨by simp [g1], cleanVs_ones hcl.1, ?_⟩ ⟨by simp [hl1], hcl1, ?_⟩) ⟨by simp [g2], cleanVs_ones hcl.2, ?_⟩
    · intro j x u hx hu
      rw [List.getElem?_map] at hx
      obtain ⟨y, hy, rfl⟩ := map_some' hx
      exact .one (mv (cleanL_get hcl.1 hy) (g3 j y u hy hu))
    · intro j x u hx hu
      rw [Array.getElem?_map] at hu
      obtain ⟨p, hp, rfl⟩ := map_some' hu
      exact hrep1 j x p hx (by simpa using hp)
    · intro j x u hx hu
      rw [List.getElem?_map] at hx
      obtain ⟨y, hy, rfl⟩ := map_some' hx
      exact .one (mv (cleanL_get hcl.2 hy) (g4 j y u hy hu))
  generalize hvs : first.map V.one ++ vs ++ cap.map V.one = vall at rep h4
  generalize hus : fs ++ c.args.map a.eval ++ cs = uall at rep
  have he : (execOp a.eval o).run P w = (callFunc fid uall).run P w := by
    subst hus
    simp [execOp, ho, resolve, hcal, Deferred.ofValue, hfv, invoke]
  refine opsTo_fn he ?_
  simp only [callF] at h4
  obtain ⟨_, k1, k2⟩ := Q.run_bind_some h4
  clear h4
  obtain ⟨⟨rs, bs⟩, k3, k4⟩ := Q.run_bind_some k2
  clear k2
  dsimp only at k4
  obtain ⟨vs', k5, k6⟩ := Q.run_ofO_some k4
  clear k4
  obtain ⟨bs', k7, k8⟩ := Q.run_ofO_some k6
  clear k6
  obtain ⟨⟨rv, out⟩, k9, k10⟩ := Q.run_ofO_some k8
  clear k8
  dsimp only at k10
  obtain ⟨e1, e2, e3, e4, e5, e6, e7⟩ := enter_rel M (liveAll_inv _ k1) k3 k5 k7 rep.1 rep.2.1 rep.2.2
  have hEx : ∀ B i o, enterL rs (S.wrs ws).E L1 B = some (.box (.e i) o) → i < bs'.length := by
    intro B i o hB
    rcases enterL_back hB with ⟨h, _⟩ | ⟨r, o', i', h, _, hi⟩ | ⟨_, _, _, _, _, _, _, h, _⟩
    · cases h
    · simp only [Lab.box.injEq, Root.e.injEq] at h
      obtain ⟨rfl, rfl⟩ := h
      rw [e6]
      have := (rootIdx_inv rs hi).2
      exact (List.getElem?_eq_some_iff.1 this).1
    · cases h
  have hGe : GI G w (enterL rs (S.wrs ws).E L1) := by
    intro B c hB
    obtain ⟨q1, q2⟩ := hGi B c hB
    refine ⟨?_, q2⟩
    exact enterL_imm (M.mono.imm B q1).1
  refine (hO k9 hf e1 e2 hGe hEx).mono ?_
  rintro v w' ⟨Lc', m1, m2, m3⟩
  have hG : ∀ r ∈ rs, r.isG = false := fun r hr => (e4 r hr).2
  rw [Q.run_ite] at k10
  split at k10
  · -- nothing but a flat value
    rename_i hc
    simp only [Bool.and_eq_true, List.isEmpty_iff] at hc
    obtain ⟨⟨hrs, hfl⟩, hout⟩ := hc
    obtain rfl := Q.run_pure_some k10
    subst hrs
    have hL0 : ∀ {B l}, L B = some l → enterL [] (S.wrs ws).E L1 B = none ∨ enterL [] (S.wrs ws).E L1 B = some .imm := by
      intro B l hB
      cases hx : enterL [] (S.wrs ws).E L1 B with
      | none => exact .inl rfl
      | some l2 =>
        right
        rcases enterL_back hx with ⟨rfl, _⟩ | ⟨_, _, _, _, _, h⟩ | ⟨_, _, _, _, _, _, _, _, _, h, _⟩
        · rfl
        · simp [rootIdx] at h
        · simp [rootIdx] at h
    have hlt : ∀ {B l}, L B = some l → B < w.heap.size := by
      intro B l hB
      exact R.dom B l hB
    have hheap : ∀ B l, L B = some l → w'.heap[B]? = w.heap[B]? := by
      intro B l hB
      rcases hL0 hB with h | h
      · exact (m1.none B (hlt hB) h).2
      · exact (m1.imm B h).2
    have R' := R.grown hheap
    have hm : Mono w w' L L := by
      refine ⟨m1.os, m1.tape, m1.output, m1.size, fun B hB => ⟨hB, hheap B _ hB⟩, fun B hB hL => ⟨hL, ?_⟩, fun _ _ _ h => h⟩
      have h1 := (M.mono.none B hB hL).1
      exact (m1.none B hB (by simp [enterL, h1])).2
    exact Rel.aft (ws := []) R' hm hd (m := 0) (m3.flat hfl)
  obtain ⟨gs, k11, k12⟩ := Q.run_bind_some k10
  clear k10
  have hgs := gensOf_inv k11
  have hle := fun k => St.γ_wrs_le S ws k
  rw [Q.run_ite] at k12
  split at k12
  · -- the boxes come back
    rename_i hout
    obtain ⟨r', k13, k14⟩ := Q.run_ofO_some k12
    clear k12
    obtain ⟨bs2, k15, k16⟩ := Q.run_ofO_some k14
    clear k14
    obtain ⟨k17, k18⟩ := Q.run_guard_some k16
    obtain rfl := Q.run_pure_some k18
    have hl2 : bs2.length = rs.length := by rw [outBs_length k15, hout]
    have X := exitB e3 e5 hl2 k17 e4 e7 M.rel.bound
    obtain ⟨x1, x2, x3, x4⟩ := exit_rel (gs := gs) M.rel hH1 e3 ⟨[], by simp⟩ hG (fun r h1 h2 => absurd h1 h2) rfl m1 m2 X
      (fun i => by rw [hgs, List.getElem?_map]; cases rs[i]? <;> rfl)
      (fun i r g h => by
        rw [hgs, List.getElem?_map] at h
        obtain ⟨r0, h1, h2⟩ := map_some' h
        simp only [Prod.mk.injEq] at h2
        obtain ⟨rfl, rfl⟩ := h2
        exact St.γ_wrs_le S _ _) k15
    exact Rel.aft x1 (M.mono.trans x2) hd (m := 0) (m3.back x3 k13 x4)
  · -- a new one too
    obtain ⟨e, k13, k14⟩ := Q.run_bind_some k12
    clear k12
    rw [atP_run] at k13
    simp only [Option.some.injEq] at k13
    subst k13
    dsimp only at k14
    obtain ⟨r', k15, k16⟩ := Q.run_ofO_some k14
    clear k14
    obtain ⟨bs2, k17, k18⟩ := Q.run_ofO_some k16
    clear k16
    obtain ⟨k19, k20⟩ := Q.run_guard_some k18
    clear k18
    obtain rfl := Q.run_pure_some k20
    simp only [Bool.and_eq_true, beq_iff_eq, Bool.or_eq_true, Bool.not_eq_true'] at k19
    obtain ⟨⟨⟨q1, q2⟩, q3⟩, q4⟩ := k19
    have hne : (Root.l d) ∉ rs := by simpa using q4
    have hl2 : bs2.length = rs.length + 1 := by rw [outBs_length k17, q1]
    obtain ⟨X, hγ⟩ := exitC e3 e5 hl2 q2 e4 hne e7 M.rel.bound q3 rfl
    have hgl : gs.length = rs.length := by rw [hgs]; simp
    obtain ⟨x1, x2, x3, x4⟩ := exit_rel (gs := gs ++ [(.l d, S.γ (.r (.l d)) + 1)]) M.rel hH1 (by
        rw [List.nodup_append]
        exact ⟨e3, by simp, fun x hx y hy h => by simp at hy; subst hy; subst h; exact hne hx⟩) ⟨[.l d], rfl⟩ (fun r hr => by
          rcases List.mem_append.1 hr with h | h
          · exact hG r h
          · simp at h; subst h; rfl) (fun r h1 h2 => by
          rcases List.mem_append.1 h1 with h | h
          · exact absurd h h2
          · simp at h; subst h; exact ⟨hγ, fun i e => by cases e⟩) rfl m1 m2 X
      (fun i => by
        by_cases hi : i < rs.length
        · rw [List.getElem?_append_left (by omega), List.getElem?_append_left hi, hgs, List.getElem?_map]; cases rs[i]? <;> rfl
        · rw [List.getElem?_append_right (by omega), List.getElem?_append_right (by omega), hgl]
          cases i - rs.length <;> rfl)
      (fun i r g h => by
        by_cases hi : i < rs.length
        · rw [List.getElem?_append_left (by omega), hgs, List.getElem?_map] at h
          obtain ⟨r0, h1, h2⟩ := map_some' h
          simp only [Prod.mk.injEq] at h2
          obtain ⟨rfl, rfl⟩ := h2
          exact St.γ_wrs_le S _ _
        · rw [List.getElem?_append_right (by omega)] at h
          cases hx : i - gs.length with
          | zero =>
            simp [hx] at h
            obtain ⟨rfl, rfl⟩ := h
            exact Nat.lt_of_le_of_lt (hle (.r (.l d))) hγ
          | succ n => simp [hx] at h) k17
    exact Rel.aft x1 (M.mono.trans x2) hd (m := 0) (m3.back x3 k15 x4)
end
end
section
section
variable {nm : FuncId → Option Nat} {N : Nat} {S S0 : St} {a : Act} {w : World} {L L0 : LabF} {P : Program} {ws : List Wr}
def resVal (P : Program) (w : World) (tmps : Array Value) (rv : ResultVar) (v : Value) : Prop :=
  (match rv with
    | .tmp t => (pure (tmps.getD t undef) : Sem Value)
    | .cell a t => do loadVar t (← asAddr (tmps.getD a undef))).run P w = .ok v w
theorem load_core (R : Rel nm N S a w L) {r0 : Root} {g c : Nat} {u : Value} {t : TypeId} {n : Nat} {agg : Bool} (ht : aggOf P t = some (n, agg)) (hv : RepC nm w L S.γ (.h 0) 0 (.ptr r0 g c) u)
    (hG : r0.isG = false) (hg : (S.get (.r r0)).g = g) (hcn : c + n ≤ boxN (S.get (.r r0)).v) {cs : List C} (h3 : (readCells r0 c n).run S = some cs) {x' : V} (h4 : (mkV agg cs).run S = some x') :
    ∃ val, (∃ ad, u = .pointer (some ad) ∧ (loadVar t ad).run P w = .ok val w) ∧ RepV nm w L S.γ (.h 0) x' val := by
    obtain ⟨hlen, hcells⟩ := readCells_inv n c h3
    cases hv with
    | ptr hv0 hgl hp =>
      obtain ⟨B, o', hB, hval⟩ := hp hg.symm
      by_cases hn0 : n = 0
      · -- no cell
        subst hn0
        have hcs : cs = [] := List.length_eq_zero_iff.1 hlen
        subst hcs
        obtain ⟨hm, hm1⟩ := mkV_rep (nm := nm) (w := w) (L := L) (γ := S.γ) (k := .h 0) (vs := []) h4 rfl (fun j c v h => by simp at h)
        exact ⟨_, ⟨_, hval, run_loadVar ht rfl (fun h => by have := hm1 h; simp at this) (fun j v h => by simp at h)⟩, hm⟩
      obtain ⟨B', o'', cur, e, fz, k1, k2, k3, k4⟩ := R.room r0 hG (by have : c + n ≤ boxN (S.E (.r r0)) := hcn; omega)
      obtain rfl := R.boxInj B' B r0 o'' o' k1 hB
      obtain rfl : o'' = o' := by rw [k1] at hB; simpa using hB
      have hcn' : c + n ≤ boxN (S.E (.r r0)) := hcn
      let vs := (List.range n).map fun j => cur.getD (o'' + c + j) undef
      have hvs : ∀ j v, vs[j]? = some v → j < n ∧ cur[o'' + c + j]? = some v := by
        intro j v hjv
        simp only [vs, List.getElem?_map] at hjv
        have hj : j < n := by
          rcases Nat.lt_or_ge j n with h | h
          · exact h
          · simp [List.getElem?_eq_none, h] at hjv
        have hlt : o'' + c + j < cur.size := by omega
        simp [hj, Array.getD, hlt] at hjv
        exact ⟨hj, by simp [hlt, hjv]⟩
      have hvl : vs.length = n := by simp [vs]
      have hm := mkV_rep (nm := nm) (w := w) (L := L) (γ := S.γ) (k := .h 0) (vs := vs) h4 (by rw [hlen, hvl]) (by
        intro j c1 v1 hc1 hv1
        obtain ⟨hj, hcur⟩ := hvs j v1 hv1
        obtain ⟨y, hy1, hy2⟩ := hcells j hj
        rw [hc1] at hy2
        simp only [Option.some.injEq] at hy2
        subst hy2
        by_cases hyd : y = .dead
        · subst hyd; exact .dead
        · have hat := R.cell r0 (c + j) y hy1 hyd
          have : ∃ B o cur e fz v, L B = some (.box r0 o) ∧ w.heap[B]? = some (.cells cur e fz) ∧ unfroz cur.size fz ∧ cur[o + (c + j)]? = some v ∧ RepC nm w L S.γ (.b r0 (c + j)) 0 y v := by
            cases r0 with
            | g i => simp [Root.isG] at hG
            | e i => obtain ⟨B, o, cur, e, fz, v, q1, q2, q3, q4, q5, _⟩ := hat; exact ⟨B, o, cur, e, fz, v, q1, q2, q3, q4, q5⟩
            | l i => obtain ⟨B, o, cur, e, fz, v, q1, q2, q3, q4, q5, _⟩ := hat; exact ⟨B, o, cur, e, fz, v, q1, q2, q3, q4, q5⟩
          obtain ⟨B2, o2, cur2, e2, fz2, v2, a1, a2, a3, a4, a5⟩ := this
          obtain rfl := R.boxInj B2 B' r0 o2 o'' a1 k1
          obtain rfl : o2 = o'' := by rw [a1] at k1; simpa using k1
          obtain ⟨rfl, rfl, rfl⟩ : cur2 = cur ∧ e2 = e ∧ fz2 = fz := by rw [a2] at k2; simpa using k2
          rw [← Nat.add_assoc, hcur] at a4
          simp only [Option.some.injEq] at a4
          subst a4
          exact a5.look rfl _ _)
      refine ⟨_, ⟨_, hval, run_loadVar ht hvl (fun h => by rw [← hlen]; exact hm.2 h) (fun j v h => ?_)⟩, hm.1⟩
      rw [cell?_of k2]
      exact (hvs j v h).2
theorem readCells_own {r : Root} {n c : Nat} {cs : List C} (h : (readCells r c n).run S = some cs) : cs.any C.own = false := by
  obtain ⟨h1, h2⟩ := readCells_inv n c h
  rw [List.any_eq_false]
  intro x hx
  obtain ⟨j, hj⟩ := List.getElem?_of_mem hx
  obtain ⟨y, _, h3⟩ := h2 j (by rw [← h1]; exact (List.getElem?_eq_some_iff.1 hj).1)
  rw [hj] at h3
  simp only [Option.some.injEq] at h3
  rw [h3, Go.Abs.look_own]; simp
theorem mkV_own {agg : Bool} {cs : List C} {x : V} (h : (mkV agg cs).run S = some x) (hc : cs.any C.own = false) : x.own = false := by
  unfold mkV at h
  split at h
  · obtain rfl := Q.run_pure_some h; exact hc
  · split at h
    · obtain rfl := Q.run_pure_some h; simpa [V.own, V.cells] using hc
    · cases h
theorem rdRes_rep (R0 : Rel nm N S0 a w L0) (M : Mid nm N S0 w L0 ws a w L) (hH : NoH L) {rv : ResultVar} {R : RV} (hc : compR P rv = some R) {r : V × List Wr} (hr : (rdRes ws R).run S0 = some r) :
    ∃ v L', Out nm N S0 w L0 ws r.2 a w L L' (fun _ => True) 0 ∧ LimV nm w L0 S0.γ w L' (S0.wrs r.2).γ 0 r.1 v ∧ resVal P w a.tmps rv v := by
  cases rv with
  | tmp t =>
    simp only [compR, Option.some.injEq] at hc
    subst hc
    simp only [rdRes] at hr
    obtain ⟨L', h1, h2⟩ := tk_rep M R0 (hH.free 0) (x := .t t) (o := .tmp t) rfl .t hr
    exact ⟨_, L', h1, h2, rfl⟩
  | cell ad t =>
    simp only [compR] at hc
    obtain ⟨⟨n, agg⟩, h1, h2⟩ := bind_some hc
    cases h2
    simp only [rdRes] at hr
    obtain ⟨v, h3, h4⟩ := Q.run_bind_some hr
    have hv := rd_val R0 (x := .tmp ad) .s h3
    split at h4
    · rename_i r0 g c
      have h5 := Q.run_at_some h4
      obtain ⟨hg, h6⟩ := Q.run_guard_some h5
      simp only [Bool.and_eq_true, Bool.not_eq_true', beq_iff_eq, decide_eq_true_eq] at hg
      obtain ⟨cs, h7, h8⟩ := Q.run_bind_some h6
      obtain ⟨x', h9, h10⟩ := Q.run_bind_some h8
      obtain rfl := Q.run_pure_some h10
      obtain ⟨val, ⟨ad', e1, e2⟩, rep⟩ := load_core R0 h1 hv.one_inv hg.1.1 hg.1.2 hg.2 h7 h9
      refine ⟨val, L, Out.refl M _ 0, LimV.of_rep M.stp rep (mkV_own h9 (readCells_own h7)), ?_⟩
      have e1' : a.tmps.getD ad undef = .pointer (some ad') := e1
      simp [resVal, e1', asAddr, e2]
    · cases h4
theorem stMvL_rep : ∀ (cs : List C) {ws : List Wr} {L : LabF} (M : Mid nm N S0 w L0 ws a w L) (j0 : Nat) (vs : Nat → Value)
    (hc : ∀ j c, cs[j]? = some c → LimC nm w L0 S0.γ w L (S0.wrs ws).γ 0 (j0 + j) c (vs (j0 + j))) {r : List C × List Wr} (hr : (stMvL ws cs).run S0 = some r),
    ∃ L', Out nm N S0 w L0 ws r.2 a w L L' (fun q => ¬ (q.k = .h 0 ∧ j0 ≤ q.j)) 0 ∧ r.1.length = cs.length ∧
      ∀ j c, r.1[j]? = some c → RepC nm w L' (S0.wrs r.2).γ (.h 0) (j0 + j) c (vs (j0 + j))
  | [], ws, L, M, j0, vs, hc, r, hr => by
    simp only [stMvL] at hr
    obtain rfl := Q.run_pure_some hr
    exact ⟨L, Out.refl M _ 0, rfl, fun j c h => by simp at h⟩
  | c :: cs, ws, L, M, j0, vs, hc, r, hr => by
    simp only [stMvL] at hr
    obtain ⟨⟨c1, ws1⟩, h1, h2⟩ := Q.run_bind_some hr
    clear hr
    obtain ⟨⟨cs2, ws2⟩, h3, h4⟩ := Q.run_bind_some h2
    clear h2
    obtain rfl := Q.run_pure_some h4
    dsimp only at h3
    obtain ⟨L1, O1, R1⟩ := stMv_rep M (by simpa using hc 0 c rfl) h1
    dsimp only at O1 R1
    obtain ⟨L2, O2, hl, R2⟩ := stMvL_rep cs O1.mid (j0 + 1) vs (fun j c h => by
      have := hc (j + 1) c (by simpa using h)
      have := this.keep O1.keep (fun p => by simp)
      rwa [show j0 + 1 + j = j0 + (j + 1) by omega]) h3
    refine ⟨L2, (O1.weaken ?_).trans (O2.weaken ?_), by simp [hl], ?_⟩
    · intro q hq h; exact hq ⟨h.1, by omega⟩
    · intro q hq h; exact hq ⟨h.1, by omega⟩
    · intro j c hj
      cases j with
      | zero =>
        simp only [List.getElem?_cons_zero, Option.some.injEq] at hj
        subst hj
        exact R1.keep O2.keep (fun p => by simp)
      | succ j =>
        have := R2 j c (by simpa using hj)
        rwa [show j0 + 1 + j = j0 + (j + 1) by omega] at this
def OnlyH (L : LabF) : Prop := ∀ B q o, L B = some (.row q o) → q.k.isPl = false → q.k = .h 0
theorem onlyH_of {ws' : List Wr} {L' : LabF} {K : Place → Prop} (hH : NoH L) (O : Out nm N S0 w L0 ws ws' a w L L' K 0) : OnlyH L' := by
  intro B q o hB hq
  by_cases hk : q.k = .h 0
  · exact hk
  · have := hH B q o (O.onlyH B q o hq hk hB)
    rw [hq] at this; cases this
theorem onlyH_noH (hH : NoH L) : OnlyH L := fun B q o hB hq => by have := hH B q o hB; rw [hq] at this; cases this
theorem resOne_rep (R0 : Rel nm N S0 a w L0) (hH : NoH L0) {rv : ResultVar} {R : RV} (hc : compR P rv = some R) {r : V × List Wr} (hr : (resOne R).run S0 = some r) :
    ∃ v L', Mid nm N S0 w L0 r.2 a w L' ∧ OnlyH L' ∧ RepV nm w L' (S0.wrs r.2).γ (.h 0) r.1 v ∧ resVal P w a.tmps rv v := by
  simp only [resOne] at hr
  obtain ⟨⟨x, ws1⟩, h1, h2⟩ := Q.run_bind_some hr
  clear hr
  obtain ⟨v, L1, O1, V1, hv⟩ := rdRes_rep R0 (Mid.init R0) hH hc h1
  dsimp only at h2 O1 V1
  split at h2
  · rename_i c
    obtain ⟨⟨c', ws2⟩, h3, h4⟩ := Q.run_bind_some h2
    clear h2
    obtain rfl := Q.run_pure_some h4
    obtain ⟨L2, O2, R2⟩ := stMv_rep (m := 0) (j := 0) (v := v) O1.mid V1 h3
    dsimp only at O2 R2 ⊢
    exact ⟨v, L2, O2.mid, onlyH_of hH ((O1.weaken (K' := fun q => ¬ (q.k = .h 0 ∧ q.j = 0)) (fun _ _ => trivial)).trans O2), .one R2, hv⟩
  · rename_i cs
    obtain ⟨⟨cs', ws2⟩, h3, h4⟩ := Q.run_bind_some h2
    clear h2
    obtain rfl := Q.run_pure_some h4
    obtain ⟨us, rfl, hl, hV⟩ := V1
    obtain ⟨L2, O2, l2, R2⟩ := stMvL_rep cs O1.mid 0 (fun j => us.getD j undef) (fun j c hc => by
      have hj : j < us.size := by rw [← hl]; exact (List.getElem?_eq_some_iff.1 hc).1
      have := hV j c _ hc (Array.getElem?_eq_getElem hj)
      simpa [Array.getD, hj] using this) h3
    dsimp only at O2 R2 l2 ⊢
    refine ⟨_, L2, O2.mid, onlyH_of hH ((O1.weaken (K' := fun q => ¬ (q.k = .h 0 ∧ 0 ≤ q.j)) (fun _ _ => trivial)).trans O2), .agg (by simp [l2, hl]) (fun j c u hj hu => ?_), hv⟩
    have := R2 j c hj
    rw [Nat.zero_add] at this
    simp only [Array.getD_eq_getD_getElem?, hu, Option.getD_some] at this
    exact this
  · cases h2
theorem resVs_rep (R0 : Rel nm N S0 a w L0) : ∀ (rvs : List ResultVar) {Rs : List RV} {ws : List Wr} {L : LabF} (M : Mid nm N S0 w L0 ws a w L) (hH : NoH L) (hc : rvs.mapM (compR P) = some Rs) {rr : List V × List Wr} (hr : (resVs ws Rs).run S0 = some rr),
    ∃ (vs : List Value) (L' : LabF), Mid nm N S0 w L0 rr.2 a w L' ∧ NoH L' ∧ Step w w L L' (S0.wrs ws).γ (S0.wrs rr.2).γ ∧ rr.1.length = vs.length ∧ cleanVs rr.1 = true ∧ (∀ (j : Nat) x v, rr.1[j]? = some x → vs[j]? = some v → RepV nm w L' (S0.wrs rr.2).γ (.h 0) x v) ∧
      vs.length = rvs.length ∧ ∀ (j : Nat) rv v, rvs[j]? = some rv → vs[j]? = some v → resVal P w a.tmps rv v
  | [], Rs, ws, L, M, hH, hc, rr, hr => by
    have : Rs = [] := by simpa using hc.symm
    subst this
    simp only [resVs] at hr
    obtain rfl := Q.run_pure_some hr
    exact ⟨[], L, M, hH, Step.same w L (fun _ => Nat.le_refl _), rfl, rfl, fun j x p h => by simp at h, rfl, fun j x p h => by simp at h⟩
  | rv :: rvs, Rs, ws, L, M, hH, hc, rr, hr => by
    rw [List.mapM_cons] at hc
    obtain ⟨R, hc1, hc2⟩ := bind_some hc
    obtain ⟨Rt, hc3, hc4⟩ := bind_some hc2
    cases hc4
    simp only [resVs] at hr
    obtain ⟨⟨x, ws1⟩, h1, h2⟩ := Q.run_bind_some hr
    clear hr
    obtain ⟨v, L1, O1, V1, hv⟩ := rdRes_rep R0 M hH hc1 h1
    dsimp only at h2 O1 V1
    have fin : ∀ {ws2 : List Wr} {L2 : LabF} {x' : V} {rest : List V × List Wr}, Mid nm N S0 w L0 ws2 a w L2 → NoH L2 → Step w w L L2 (S0.wrs ws).γ (S0.wrs ws2).γ → x'.clean = true → RepV nm w L2 (S0.wrs ws2).γ (.h 0) x' v → (resVs ws2 Rt).run S0 = some rest → rr = (x' :: rest.1, rest.2) →
        ∃ (vs : List Value) (L' : LabF), Mid nm N S0 w L0 rr.2 a w L' ∧ NoH L' ∧ Step w w L L' (S0.wrs ws).γ (S0.wrs rr.2).γ ∧ rr.1.length = vs.length ∧ cleanVs rr.1 = true ∧ (∀ (j : Nat) x v, rr.1[j]? = some x → vs[j]? = some v → RepV nm w L' (S0.wrs rr.2).γ (.h 0) x v) ∧
          vs.length = (rv :: rvs).length ∧ ∀ (j : Nat) rv' v, (rv :: rvs)[j]? = some rv' → vs[j]? = some v → resVal P w a.tmps rv' v := by
      intro ws2 L2 x' rest M2 hH2 st2 hcl rep h5 hrr
      obtain ⟨vs, L3, M3, hH3, st3, hl3, hc3, R3, hl4, hv4⟩ := resVs_rep R0 rvs M2 hH2 hc3 h5
      subst hrr
      refine ⟨v :: vs, L3, M3, hH3, st2.trans st3, by simp [hl3], by simp [cleanVs, hcl, hc3], ?_, by simp [hl4], ?_⟩
      · intro j x v' hj hv'
        cases j with
        | zero =>
          simp only [List.getElem?_cons_zero, Option.some.injEq] at hj hv'
          subst hj; subst hv'
          exact rep.stepClean st3 hcl _
        | succ j => exact R3 j x v' (by simpa using hj) (by simpa using hv')
      · intro j rv' v' hj hv'
        cases j with
        | zero =>
          simp only [List.getElem?_cons_zero, Option.some.injEq] at hj hv'
          subst hj; subst hv'
          exact hv
        | succ j => exact hv4 j rv' v' (by simpa using hj) (by simpa using hv')
    split at h2
    · rename_i c
      obtain ⟨⟨c', ws2⟩, h3, h4⟩ := Q.run_bind_some h2
      clear h2
      obtain ⟨⟨vs, ws3⟩, h5, h6⟩ := Q.run_bind_some h4
      clear h4
      have hrr := Q.run_pure_some h6
      obtain ⟨L2, O2, R2⟩ := st_rep (m := 0) (j := 0) (c := c) (v := v) O1.mid V1 h3
      dsimp only at O2 R2 h5
      have O12 := (O1.weaken (K' := fun q => ¬ (q.k = .h 0 ∧ q.j = 0)) (fun _ _ => trivial)).trans O2
      obtain ⟨M3, st3⟩ := O2.mid.frz
      obtain ⟨R3, hcl⟩ := RepC.plainH (k' := .h 0) (j' := 0) st3 R2 (st_noappd h3)
      exact fin M3 (noH_frz O2.mid (onlyH_of hH O12)) (O12.stp.trans st3) (x' := .one c'.plain) hcl (.one R3) h5 hrr
    · rename_i cs
      obtain ⟨⟨cs', ws2⟩, h3, h4⟩ := Q.run_bind_some h2
      clear h2
      obtain ⟨⟨vs, ws3⟩, h5, h6⟩ := Q.run_bind_some h4
      clear h4
      have hrr := Q.run_pure_some h6
      obtain ⟨us, hus, hl, hV⟩ := V1
      obtain ⟨L2, O2, l2, R2⟩ := stL_rep (m := 0) cs O1.mid 0 (fun j => us.getD j undef) (fun j c hc => by
        have hj : j < us.size := by rw [← hl]; exact (List.getElem?_eq_some_iff.1 hc).1
        have := hV j c _ hc (Array.getElem?_eq_getElem hj)
        simpa [Array.getD, hj] using this) h3
      dsimp only at O2 R2 h5 l2
      have O12 := (O1.weaken (K' := fun q => ¬ (q.k = .h 0 ∧ 0 ≤ q.j)) (fun _ _ => trivial)).trans O2
      obtain ⟨M3, st3⟩ := O2.mid.frz
      have each : ∀ (j : Nat) c, (cs'.map C.plain)[j]? = some c → c.clean = true ∧ ∀ u, us[j]? = some u → RepC nm w (frzH L2) (S0.wrs ws2).γ (.h 0) j c u := by
        intro j c hc
        rw [List.getElem?_map] at hc
        cases hj : cs'[j]? with
        | none => simp [hj] at hc
        | some c0 =>
          simp only [hj, Option.map_some, Option.some.injEq] at hc
          subst hc
          have := R2 j c0 hj
          rw [Nat.zero_add] at this
          have hp := RepC.plainH (k' := .h 0) (j' := j) st3 this (stL_noappd _ h3 c0 (List.mem_of_getElem? hj))
          refine ⟨hp.2, fun u hu => ?_⟩
          have h1 := hp.1
          simp only [Array.getD_eq_getD_getElem?, hu, Option.getD_some] at h1
          exact h1
      refine fin M3 (noH_frz O2.mid (onlyH_of hH O12)) (O12.stp.trans st3) (x' := .agg (cs'.map C.plain)) (cleanL_map (fun j c hc => (each j c hc).1)) ?_ h5 hrr
      rw [hus]
      exact .agg (by simp [l2, hl]) (fun j c u hc hu => (each j c hc).2 u hu)
    · cases h2
def wholeRes (vs : List Value) : Value := match vs with | [v] => v | vs => .tuple vs.toArray
theorem resAll_rep (R0 : Rel nm N S0 a w L0) (hH : NoH L0) {fg : Bool} {rvs : List ResultVar} {Rs : List RV} (hc : rvs.mapM (compR P) = some Rs) {r : V × List Wr} (hr : (resAll fg Rs).run S0 = some r) :
    ∃ (vs : List Value) (L' : LabF), Mid nm N S0 w L0 r.2 a w L' ∧ OnlyH L' ∧ RepV nm w L' (S0.wrs r.2).γ (.h 0) r.1 (wholeRes vs) ∧ vs.length = rvs.length ∧ ∀ (j : Nat) rv v, rvs[j]? = some rv → vs[j]? = some v → resVal P w a.tmps rv v := by
  have hl : Rs.length = rvs.length := by
    clear hr
    induction rvs generalizing Rs with
    | nil => have : Rs = [] := by simpa using hc.symm
             subst this; rfl
    | cons x t ih =>
      rw [List.mapM_cons] at hc
      obtain ⟨R, hc1, hc2⟩ := bind_some hc
      obtain ⟨Rt, hc3, hc4⟩ := bind_some hc2
      cases hc4
      simp [ih hc3]
  have many : ∀ {x : List V × List Wr}, (resVs [] Rs).run S0 = some x → ∃ (vs : List Value) (L' : LabF), Mid nm N S0 w L0 x.2 a w L' ∧ OnlyH L' ∧ x.1.length = vs.length ∧ cleanVs x.1 = true ∧ (∀ (j : Nat) y v, x.1[j]? = some y → vs[j]? = some v → RepV nm w L' (S0.wrs x.2).γ (.h 0) y v) ∧ vs.length = rvs.length ∧ ∀ (j : Nat) rv v, rvs[j]? = some rv → vs[j]? = some v → resVal P w a.tmps rv v := by
    intro x hx
    obtain ⟨vs, L', h1, h2, _, h3, h4, h5, h6, h7⟩ := resVs_rep R0 rvs (Mid.init R0) hH hc hx
    exact ⟨vs, L', h1, onlyH_noH h2, h3, h4, h5, h6, h7⟩
  unfold resAll at hr
  split at hr
  · rename_i R
    have hl1 : rvs.length = 1 := by rw [← hl]; rfl
    obtain ⟨rv, rfl⟩ := List.length_eq_one_iff.1 hl1
    split at hr
    · obtain ⟨⟨vs, ws⟩, h1, h2⟩ := Q.run_bind_some hr
      clear hr
      obtain ⟨us, L', k1, k2, k3, k4, k5, k6, k7⟩ := many h1
      dsimp only at h2 k1 k3 k4 k5
      split at h2
      · rename_i v
        obtain rfl := Q.run_pure_some h2
        obtain ⟨u, rfl⟩ := List.length_eq_one_iff.1 k3.symm
        exact ⟨[u], L', k1, k2, k5 0 v u rfl rfl, k6, k7⟩
      · cases h2
    · have hc1 : compR P rv = some R := by
        rw [List.mapM_cons] at hc
        obtain ⟨R', hc1, hc2⟩ := bind_some hc
        obtain ⟨Rt, hc3, hc4⟩ := bind_some hc2
        cases hc4
        exact hc1
      obtain ⟨v, L', k1, k2, k3, k4⟩ := resOne_rep R0 hH hc1 hr
      refine ⟨[v], L', k1, k2, k3, rfl, ?_⟩
      intro j rv' v' h1 h2
      cases j with
      | zero => simp at h1 h2; subst h1; subst h2; exact k4
      | succ j => simp at h1
  · rename_i hne
    obtain ⟨⟨vs, ws⟩, h1, h2⟩ := Q.run_bind_some hr
    clear hr
    obtain rfl := Q.run_pure_some h2
    obtain ⟨us, L', k1, k2, k3, k4, k5, k6, k7⟩ := many h1
    dsimp only at k1 k3 k4 k5 ⊢
    refine ⟨us, L', k1, k2, ?_, k6, k7⟩
    have : wholeRes us = .tuple us.toArray := by
      match us, k6 with
      | [], _ => rfl
      | [u], h => exact absurd (by rw [← h] at hl; exact List.length_eq_one_iff.1 hl) (by rintro ⟨R, rfl⟩; exact hne R rfl)
      | _ :: _ :: _, _ => rfl
    rw [this]
    exact .tup (by simpa using k3) k4 (fun i x u h1 h2 => k5 i x u h1 (by simpa using h2))
theorem run_results {fn : Func} {vs : List Value} (hl : vs.length = fn.results.toList.length) (h : ∀ (j : Nat) rv v, fn.results.toList[j]? = some rv → vs[j]? = some v → resVal P w a.tmps rv v) :
    (results fn a.tmps).run P w = .ok (wholeRes vs) w := by
  have hm : ∀ (l : List ResultVar) (us : List Value), us.length = l.length → (∀ (j : Nat) rv v, l[j]? = some rv → us[j]? = some v → resVal P w a.tmps rv v) →
      (l.mapM fun (rv : ResultVar) => (match rv with | .tmp t => (pure (a.tmps.getD t undef) : Sem Value) | .cell ad t => do loadVar t (← asAddr (a.tmps.getD ad undef)))).run P w = Result.ok us w := by
    intro l
    induction l with
    | nil => intro us h1 _; have : us = [] := by simpa using h1
             subst this; rfl
    | cons rv l ih =>
      intro us h1 h2
      cases us with
      | nil => simp at h1
      | cons u us =>
        rw [List.mapM_cons, Sem.run_bind]
        have e1 := h2 0 rv u rfl rfl
        unfold resVal at e1
        rw [e1, Result.andThen_ok, Sem.run_bind, ih us (by simpa using h1) (fun j rv' v' g1 g2 => h2 (j + 1) rv' v' (by simpa using g1) (by simpa using g2)), Result.andThen_ok]
        rfl
  have e := hm fn.results.toList vs hl h
  unfold results
  rw [Array.mapM_eq_mapM_toList]
  rw [Sem.run_bind, map_eq_pure_bind, Sem.run_bind]
  refine (congrArg (fun r => Result.andThen (Result.andThen r _) _) e).trans ?_
  simp only [Result.andThen_ok]
  match vs with
  | [] => rfl
  | [u] => rfl
  | _ :: _ :: _ => rfl
end
end
section
section
variable {nm : FuncId → Option Nat} {N : Nat} {S S0 : St} {a : Act} {w : World} {L L0 : LabF} {P : Program} {ws : List Wr} {γ : Key → Nat} {rs : List Root} {E : Key → V}
theorem leave_core (R : Rel nm N S a w L) {bs bs' : List (List C)} (hnd : rs.Nodup) (hbl : bs.length = rs.length)
    (hb : ∀ (k : Nat) r cs, rs[k]? = some r → bs[k]? = some cs → r.isG = false ∧ cs.length = boxN (S.E (.r r)) ∧ (∀ (j : Nat) x, cs[j]? = some x → S.E (.b r j) = .one x) ∧ ∀ y ∈ ptrsL cs, y.2 = S.γ (.r y.1))
    (hbs : inBs rs bs = some bs') : Rel nm 0 (boxesEnts 0 bs') ⟨#[], []⟩ w (enterL rs S.E L) := by
  have box : ∀ j, j < bs'.length → ∃ r cs, rs[j]? = some r ∧ bs[j]? = some cs ∧ inL rs cs = some (bs'.getD j []) ∧ (bs'.getD j []).length = boxN (S.E (.r r)) ∧ r.isG = false ∧ rootIdx rs r 0 = some j ∧
      (∀ (i : Nat) x, cs[i]? = some x → S.E (.b r i) = .one x) ∧ ∀ x ∈ ptrsL cs, x.2 = S.γ (.r x.1) := by
    intro j hj
    have hget : bs'[j]? = some (bs'.getD j []) := getD_some hj
    obtain ⟨cs, h1, h2⟩ := inBs_get j hbs hget
    have hjr : j < rs.length := by rw [← hbl, ← inBs_length hbs]; exact hj
    have hr : rs[j]? = some rs[j] := List.getElem?_eq_getElem hjr
    obtain ⟨c0, c1, c2, c3⟩ := hb j rs[j] cs hr h1
    refine ⟨rs[j], cs, hr, h1, h2, by rw [inL_length h2, c1], c0, ?_, c2, c3⟩
    have := rootIdx_of rs (i := 0) hnd hr
    rwa [Nat.zero_add] at this
  refine ⟨rfl, rfl, ?_, ?_, ?_, ?_, ?_, ?_, ?_, ?_⟩
  · intro i
    rw [boxes_E]
    exact .one .dead
  · intro r c x hx hxd
    have hx' : (boxesEnts 0 bs' : St).E (.b r c) = .one x := hx
    rw [boxes_γ]
    rw [boxes_E] at hx'
    cases r with
    | g i => simp only [V.dead, V.one.injEq] at hx'; exact absurd hx'.symm hxd
    | l i => simp only [V.dead, V.one.injEq] at hx'; exact absurd hx'.symm hxd
    | e j =>
      simp only at hx'
      split at hx'
      · rename_i hjc
        obtain ⟨r0, cs, h1, h2, h3, h4, h5, h6, h7, h8⟩ := box j hjc.1
        simp only [V.one.injEq] at hx'
        obtain ⟨y, k1, k2⟩ := inL_get c h3 (show (bs'.getD j [])[c]? = some x by rw [← hx']; exact getD_some hjc.2)
        have hyE := h7 c y k1
        have hyd : y ≠ .dead := by
          rintro rfl
          simp only [C.inC, Option.some.injEq] at k2
          exact hxd k2.symm
        have hat := R.cell r0 c y hyE hyd
        have ex : ∃ B o cur e fz v, L B = some (.box r0 o) ∧ w.heap[B]? = some (.cells cur e fz) ∧ unfroz cur.size fz ∧ cur[o + c]? = some v ∧ RepC nm w L S.γ (.b r0 c) 0 y v ∧ BldOk y B o c e cur.size v := by
          cases r0 with
          | g i => simp [Root.isG] at h5
          | e i => exact hat
          | l i => exact hat
        obtain ⟨B, o, cur, e, fz, v, m1, m2, m3, m4, m5, m6⟩ := ex
        exact ⟨B, o, cur, e, fz, v, enterL_box m1 h6, m2, m3, m4, m5.enterBox k2 (fun z hz => h8 z (ptrsL_mem k1 hz)) hyE h6, inC_bld k2 m6⟩
      · simp only [V.dead, V.one.injEq] at hx'; exact absurd hx'.symm hxd
  · intro r c
    rw [boxes_E]
    cases r with
    | e j =>
      simp only
      split
      · exact ⟨(bs'.getD j []).getD c .dead, rfl⟩
      · exact ⟨.dead, rfl⟩
    | g i => exact ⟨.dead, rfl⟩
    | l i => exact ⟨.dead, rfl⟩
  · intro r c hc
    rw [boxes_E] at hc ⊢
    cases r with
    | e j =>
      simp only at hc ⊢
      by_cases hj : j < bs'.length
      · rw [if_pos hj, boxN_sizeV] at hc
        rw [if_neg (fun h => by omega)]; rfl
      · rw [if_neg (fun h => hj h.1)]; rfl
    | g i => rfl
    | l i => rfl
  · intro r hg hr
    rw [boxes_E] at hr ⊢
    cases r with
    | e j =>
      simp only at hr ⊢
      by_cases hj : j < bs'.length
      · rw [if_pos hj, boxN_sizeV] at hr ⊢
        obtain ⟨r0, cs, h1, h2, h3, h4, h5, h6, h7, h8⟩ := box j hj
        rw [h4] at hr ⊢
        obtain ⟨B, o, cur, e, fz, m1, m2, m3, m4⟩ := R.room r0 h5 hr
        exact ⟨B, o, cur, e, fz, enterL_box m1 h6, m2, m3, m4⟩
      · rw [if_neg hj] at hr; simp [V.dead, boxN] at hr
    | g i => simp [Root.isG] at hg
    | l i => simp [V.dead, boxN] at hr
  · intro B l hB
    rcases enterL_back hB with ⟨_, h⟩ | ⟨_, _, _, _, h, _⟩ | ⟨_, _, _, _, _, _, _, _, h, _⟩ <;> exact R.dom B _ h
  · intro B B' pl o o' h1 h2
    rcases enterL_back h1 with ⟨h, _⟩ | ⟨_, _, _, h, _⟩ | ⟨r, c, j, p, o1, i, x, h, k1, k2, _⟩
    · cases h
    · cases h
    rcases enterL_back h2 with ⟨h', _⟩ | ⟨_, _, _, h', _⟩ | ⟨r', c', j', p', o1', i', x', h', k1', k2', _⟩
    · cases h'
    · cases h'
    simp only [Lab.row.injEq] at h h'
    obtain ⟨rfl, rfl⟩ := h
    obtain ⟨h', rfl⟩ := h'
    simp only [Place.mk.injEq, Key.b.injEq, Root.e.injEq] at h'
    obtain ⟨⟨rfl, rfl⟩, rfl, rfl⟩ := h'
    have e1 := (rootIdx_inv rs k2).2
    have e2 := (rootIdx_inv rs k2').2
    rw [e1] at e2
    simp only [Option.some.injEq] at e2
    subst e2
    exact R.rowInj B B' _ _ _ k1 k1'
  · intro B B' r o o' h1 h2
    rcases enterL_back h1 with ⟨h, _⟩ | ⟨r1, o1, i, h, k1, k2⟩ | ⟨_, _, _, _, _, _, _, h, _⟩
    · cases h
    · rcases enterL_back h2 with ⟨h', _⟩ | ⟨r1', o1', i', h', k1', k2'⟩ | ⟨_, _, _, _, _, _, _, h', _⟩
      · cases h'
      · simp only [Lab.box.injEq] at h h'
        obtain ⟨rfl, rfl⟩ := h
        obtain ⟨h', rfl⟩ := h'
        simp only [Root.e.injEq] at h'
        subst h'
        have e1 := (rootIdx_inv rs k2).2
        have e2 := (rootIdx_inv rs k2').2
        rw [e1] at e2
        simp only [Option.some.injEq] at e2
        subst e2
        exact R.boxInj B B' _ _ _ k1 k1'
      · cases h'
    · cases h
end
end
end Go.Abs
