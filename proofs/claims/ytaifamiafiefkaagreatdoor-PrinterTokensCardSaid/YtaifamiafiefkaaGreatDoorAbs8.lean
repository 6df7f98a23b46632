/- An evaluator of the model's code over plain data, and that what it answers the model does: part 9 of 11. -/
import Derived.Test.YtaifamiafiefkaaGreatDoorAbs7
set_option linter.unusedVariables false
set_option linter.unusedSimpArgs false
namespace Go.Abs
section
section
variable {nm : FuncId → Option Nat} {G : Nat → Option Obj} {N : Nat} {S : St} {a : Act} {w : World} {L : LabF} {P : Program} {o : Oper} {Cl : Oracle} {hh : Hint} {ops : Array Oper}
mutual
def C.hangs : C → List Key
  | .view pl .. => [pl.k]
  | .eptr pl .. => [pl.k]
  | .appd pl .. => [pl.k, .a pl.k]
  | .mref i _ => [.b (.g i) 0]
  | .ptr r _ _ => [.r r]
  | .fn _ a b => hangsL a ++ hangsL b
  | _ => []
def hangsL : List C → List Key
  | [] => []
  | c :: t => c.hangs ++ hangsL t
end
mutual
def V.hangs : V → List Key
  | .one c => c.hangs
  | .agg cs => hangsL cs
  | .tup vs => hangsVs vs
def hangsVs : List V → List Key
  | [] => []
  | v :: t => v.hangs ++ hangsVs t
end
theorem hangsL_mem : ∀ {l : List C} {i : Nat} {c : C} {k : Key}, l[i]? = some c → k ∈ c.hangs → k ∈ hangsL l
  | [], _, _, _, h, _ => by simp at h
  | x :: t, 0, c, k, h, hk => by simp at h; subst h; simp [hangsL, hk]
  | x :: t, i + 1, c, k, h, hk => by simp only [hangsL, List.mem_append]; exact .inr (hangsL_mem (by simpa using h) hk)
theorem hangsVs_mem : ∀ {l : List V} {i : Nat} {c : V} {k : Key}, l[i]? = some c → k ∈ c.hangs → k ∈ hangsVs l
  | [], _, _, _, h, _ => by simp at h
  | x :: t, 0, c, k, h, hk => by simp at h; subst h; simp [hangsVs, hk]
  | x :: t, i + 1, c, k, h, hk => by simp only [hangsVs, List.mem_append]; exact .inr (hangsVs_mem (by simpa using h) hk)
theorem RepC.cnt {γ γ' : Key → Nat} {k : Key} {j : Nat} {c : C} {v : Value} (h : RepC nm w L γ k j c v) : (∀ x ∈ c.hangs, γ' x = γ x) → RepC nm w L γ' k j c v := by
  induction h with
  | d h => exact fun _ => .d h
  | @ptr r g c v hv hg h => intro hx; have := hx (.r r) (by simp [C.hangs]); exact .ptr hv (by rw [this]; exact hg) (fun e => h (by rw [e, this]))
  | @eptr pl g sz i c v hv hh hg h => intro hx; have := hx pl.k (by simp [C.hangs]); exact .eptr hv hh (by rw [this]; exact hg) (fun e => h (by rw [e, this]))
  | pp hL hB h => exact fun _ => .pp hL hB h
  | @view pl g sz off len v hv hh hg h => intro hx; have := hx pl.k (by simp [C.hangs]); exact .view hv hh (by rw [this]; exact hg) (fun e => h (by rw [e, this]))
  | @appd pl g a sz rows v hv hh hg ha h =>
    intro hx
    have h1 := hx pl.k (by simp [C.hangs])
    have h2 := hx (.a pl.k) (by simp [C.hangs])
    exact .appd hv hh (by rw [h1]; exact hg) (by rw [h2]; exact ha) (fun e e' => h (by rw [e, h1]) (by rw [e', h2]))
  | fns val hf hL hB hcl hv h ih =>
    intro hx
    exact .fns val hf hL hB hcl hv (fun i x hi => ih i x hi (fun y hy => hx y (by simp only [C.hangs, List.mem_append]; exact .inr (hangsL_mem hi hy))))
  | fn hft hf h1 h2 hcl h3 h4 ih3 ih4 =>
    intro hx
    exact .fn hft hf h1 h2 hcl (fun i x u hi hu => ih3 i x u hi hu (fun y hy => hx y (by simp only [C.hangs, List.mem_append]; exact .inl (hangsL_mem hi hy))))
      (fun i x u hi hu => ih4 i x u hi hu (fun y hy => hx y (by simp only [C.hangs, List.mem_append]; exact .inr (hangsL_mem hi hy))))
  | nilp => exact fun _ => .nilp
  | nilf => exact fun _ => .nilf
  | nili => exact fun _ => .nili
  | ifc => exact fun _ => .ifc
  | bld hk hv => exact fun _ => .bld hk hv
  | mp h => exact fun _ => .mp h
  | @mref i g v hv hg h => intro hx; have := hx (.b (.g i) 0) (by simp [C.hangs]); exact .mref hv (by rw [this]; exact hg) (fun e => h (by rw [e, this]))
  | dead => exact fun _ => .dead
theorem RepV.cnt {γ γ' : Key → Nat} {k : Key} {x : V} {v : Value} (h : RepV nm w L γ k x v) : (∀ y ∈ x.hangs, γ' y = γ y) → RepV nm w L γ' k x v := by
  induction h with
  | one h => exact fun hx => .one (h.cnt hx)
  | agg hl h => exact fun hx => .agg hl (fun j c u h1 h2 => (h j c u h1 h2).cnt (fun y hy => hx y (hangsL_mem h1 hy)))
  | tup hl hcl h ih => exact fun hx => .tup hl hcl (fun i x u h1 h2 => ih i x u h1 h2 (fun y hy => hx y (hangsVs_mem h1 hy)))
theorem Rel.forget {S S' : St} (R : Rel nm N S a w L)
    (hE : ∀ k, (S'.E k = S.E k ∨ S'.E k = (S.E k).loosen) ∨ (S'.E k = V.dead)) (hr : ∀ r, boxN (S'.E (.r r)) ≠ 0 → S'.E (.r r) = S.E (.r r))
    (hb : ∀ r c, S'.E (.b r c) ≠ V.dead → boxN (S'.E (.r r)) = boxN (S.E (.r r)))
    (hγ : ∀ k y, k.isPl = true → S'.E k ≠ V.dead → y ∈ (S.E k).hangs → S'.γ y = S.γ y) : Rel nm N S' a w L := by
  have loose : ∀ {k : Key} {x : V} {v : Value}, RepV nm w L S.γ k x v → RepV nm w L S.γ k x.loosen v := by
    intro k x v h
    cases x with
    | one c =>
      cases c with
      | d y =>
        cases y with
        | sl t sz rows =>
          cases t with
          | _ => exact h
        | _ => exact h
      | _ => exact h
    | _ => exact h
  have hangl : ∀ x : V, ∀ y ∈ x.loosen.hangs, y ∈ x.hangs := by
    intro x y hy
    cases x with
    | one c =>
      cases c with
      | d z => cases z with
        | sl t sz rows => cases t <;> exact hy
        | _ => exact hy
      | _ => exact hy
    | _ => exact hy
  have slot : ∀ k v, k.isPl = true → RepV nm w L S.γ k (S.E k) v → RepV nm w L S'.γ k (S'.E k) v := by
    intro k v hk h
    by_cases hd : S'.E k = V.dead
    · rw [hd]; exact .one .dead
    · rcases hE k with (h1 | h1) | h1
      · rw [h1]; exact h.cnt (fun y hy => hγ k y hk hd hy)
      · rw [h1]; exact (loose h).cnt (fun y hy => hγ k y hk hd (hangl _ y hy))
      · exact absurd h1 hd
  refine ⟨R.size, R.defers, fun i => slot (.s i) _ rfl (R.slot i), ?_, ?_, ?_, ?_, R.dom, R.rowInj, R.boxInj⟩
  · intro r c x hx hxd
    have hnd : S'.E (.b r c) ≠ V.dead := by rw [hx]; intro e; exact hxd (by simpa [V.dead] using e)
    obtain ⟨x0, hx0⟩ := R.bone r c
    have hx0d : x0 ≠ .dead := by
      rintro rfl
      apply hnd
      rcases hE (.b r c) with (h1 | h1) | h1
      · rw [h1, hx0]; rfl
      · rw [h1, hx0]; rfl
      · exact h1
    have hxx : x0 = x := by
      rcases hE (.b r c) with (h1 | h1) | h1
      · rw [hx, hx0] at h1; simpa using h1.symm
      · rw [hx, hx0] at h1; simpa [V.loosen, C.loosen] using h1.symm
      · exact absurd h1 hnd
    have hat := R.cell r c x0 hx0 hx0d
    have tr : ∀ v, RepC nm w L S.γ (.b r c) 0 x0 v → RepC nm w L S'.γ (.b r c) 0 x v := by
      intro v hv
      have := slot (.b r c) v rfl (by rw [hx0]; exact .one hv)
      rw [hx] at this
      exact this.one_inv
    have ex : (∃ B o cur e fz v, L B = some (.box r o) ∧ w.heap[B]? = some (.cells cur e fz) ∧ unfroz cur.size fz ∧ cur[o + c]? = some v ∧ RepC nm w L S.γ (.b r c) 0 x0 v ∧ BldOk x0 B o c e cur.size v) →
        ∃ B o cur e fz v, L B = some (.box r o) ∧ w.heap[B]? = some (.cells cur e fz) ∧ unfroz cur.size fz ∧ cur[o + c]? = some v ∧ RepC nm w L S'.γ (.b r c) 0 x v ∧ BldOk x B o c e cur.size v :=
      fun ⟨B, o, cur, e, fz, v, h1, h2, h3, h4, h5, h6⟩ => ⟨B, o, cur, e, fz, v, h1, h2, h3, h4, tr v h5, hxx ▸ h6⟩
    cases r with
    | g i => obtain ⟨v, hv⟩ := hat; exact ⟨v, tr v hv⟩
    | e i => exact ex hat
    | l i => exact ex hat
  · intro r c
    obtain ⟨x0, hx0⟩ := R.bone r c
    rcases hE (.b r c) with (h1 | h1) | h1
    · exact ⟨x0, by rw [h1, hx0]⟩
    · exact ⟨x0.loosen, by rw [h1, hx0]; rfl⟩
    · exact ⟨.dead, h1⟩
  · intro r c hc
    by_cases hd : S'.E (.b r c) = V.dead
    · exact hd
    · rw [hb r c hd] at hc
      have := R.bound r c hc
      rcases hE (.b r c) with (h1 | h1) | h1
      · rw [h1]; exact this
      · rw [h1, this]; rfl
      · exact h1
  · intro r hg hrr
    have := hr r (by omega)
    rw [this] at hrr ⊢
    exact R.room r hg hrr
theorem get_mem : ∀ (S : St) (k : Key), S.get k = ⟨.one .dead, 0⟩ ∨ (k, S.get k) ∈ S
  | [], k => .inl rfl
  | (k', e) :: t, k => by
    simp only [St.get]
    by_cases h : k' = k
    · subst h; rw [if_pos rfl]; exact .inr (by simp)
    · rw [if_neg h]
      exact (get_mem t k).imp id (fun h => by simp [h])
theorem get_filter (p : Key → Bool) : ∀ (S : St) (k : Key), St.get (S.filter fun x => p x.1) k = if p k = true then S.get k else ⟨.one .dead, 0⟩
  | [], k => by simp [St.get]
  | (k', e) :: t, k => by
    have ih := get_filter p t k
    by_cases hp : p k' = true
    · rw [List.filter_cons, if_pos (by simpa using hp)]
      simp only [St.get]
      by_cases h : k' = k
      · subst h; simp [hp]
      · simp [h, ih]
    · rw [List.filter_cons, if_neg (by simpa using hp)]
      simp only [St.get]
      by_cases h : k' = k
      · subst h; rw [ih]; simp [hp]
      · simp [h, ih]
theorem get_reset (refs : List Key) : ∀ (S : St) (k : Key), (reset refs S).get k = { (S.get k) with g := resetG refs k (S.get k).g }
  | [], k => by
    simp only [reset, St.get, resetG]
    split
    · rfl
    · cases k <;> rfl
  | (k', e) :: t, k => by
    simp only [reset, St.get]
    by_cases h : k' = k
    · subst h; simp
    · simp only [h, if_false]; exact get_reset refs t k
theorem get_loosen : ∀ (S : St) (k : Key), (loosenAll S).get k = { (S.get k) with v := (S.get k).v.loosen }
  | [], k => rfl
  | (k', e) :: t, k => by
    simp only [loosenAll, St.get]
    by_cases h : k' = k
    · subst h; simp
    · simp only [h, if_false]; exact get_loosen t k
mutual
theorem C.hangs_refs : ∀ (c : C) (k : Key), k ∈ c.hangs → k ∈ c.refs ∨ ∃ r, k = .r r
  | .view pl _ _ _ _, k, h => .inl h
  | .eptr pl _ _ _ _, k, h => .inl h
  | .appd pl _ _ _ _, k, h => .inl h
  | .mref i _, k, h => .inl h
  | .ptr r _ _, k, h => .inr ⟨r, by simpa [C.hangs] using h⟩
  | .fn _ a b, k, h => by
    simp only [C.hangs, List.mem_append] at h
    simp only [C.refs, List.mem_append]
    rcases h with h | h
    · exact (hangsL_refs a k h).imp .inl id
    · exact (hangsL_refs b k h).imp .inr id
  | .d _, k, h => by simp [C.hangs] at h
  | .pp _, k, h => by simp [C.hangs] at h
  | .nilp, k, h => by simp [C.hangs] at h
  | .nilf, k, h => by simp [C.hangs] at h
  | .nili, k, h => by simp [C.hangs] at h
  | .ifc, k, h => by simp [C.hangs] at h
  | .dead, k, h => by simp [C.hangs] at h
theorem hangsL_refs : ∀ (l : List C) (k : Key), k ∈ hangsL l → k ∈ refsL l ∨ ∃ r, k = .r r
  | [], k, h => by simp [hangsL] at h
  | c :: t, k, h => by
    simp only [hangsL, List.mem_append] at h
    simp only [refsL, List.mem_append]
    rcases h with h | h
    · exact (C.hangs_refs c k h).imp .inl id
    · exact (hangsL_refs t k h).imp .inr id
end
mutual
theorem V.hangs_refs : ∀ (x : V) (k : Key), k ∈ x.hangs → k ∈ x.refs ∨ ∃ r, k = .r r
  | .one c, k, h => C.hangs_refs c k h
  | .agg cs, k, h => hangsL_refs cs k h
  | .tup vs, k, h => hangsVs_refs vs k h
theorem hangsVs_refs : ∀ (l : List V) (k : Key), k ∈ hangsVs l → k ∈ refsVs l ∨ ∃ r, k = .r r
  | [], k, h => by simp [hangsVs] at h
  | c :: t, k, h => by
    simp only [hangsVs, List.mem_append] at h
    simp only [refsVs, List.mem_append]
    rcases h with h | h
    · exact (V.hangs_refs c k h).imp .inl id
    · exact (hangsVs_refs t k h).imp .inr id
end
theorem allRefs_mem : ∀ (S : St) {k : Key} {e : Ent}, (k, e) ∈ S → ∀ x ∈ e.v.refs, x ∈ allRefs S
  | [], k, e, h, x, hx => by simp at h
  | (k', e') :: t, k, e, h, x, hx => by
    simp only [allRefs, List.mem_append]
    rcases List.mem_cons.1 h with h | h
    · cases h; exact .inl hx
    · exact .inr (allRefs_mem t h x hx)
theorem get_dropA (S : St) (k : Key) : (dropA S).get k = S.get k := by
  unfold dropA
  rw [get_filter (fun k => !defA S k) S k]
  split
  · rfl
  · rename_i h
    simp only [Bool.not_eq_true', Bool.not_eq_false] at h
    unfold defA at h
    split at h
    · rename_i k
      generalize S.get (.a k) = e at h ⊢
      unfold isDef at h
      split at h
      · rw [Nat.eq_of_beq_eq_true h]
      · cases h
    · cases h
theorem norm0_sound {keep : List Nat} {S' : St} (R : Rel nm N S a w L) (h : S.norm0 keep = some S') : Rel nm N S' a w L := by
  unfold St.norm0 at h
  dsimp only at h
  split at h
  · rename_i hall
    simp only [Option.some.injEq] at h
    have hrel : Rel nm N (reset (allRefs (S.filter fun x => kept keep x.1)) (S.filter fun x => kept keep x.1)) a w L → Rel nm N S' a w L := by
      subst h
      intro hR
      unfold Rel at hR ⊢
      have e1 : (dropA (reset (allRefs (S.filter fun x => kept keep x.1)) (S.filter fun x => kept keep x.1))).E = (reset (allRefs (S.filter fun x => kept keep x.1)) (S.filter fun x => kept keep x.1)).E := by
        funext k; unfold St.E; rw [get_dropA]
      have e2 : (dropA (reset (allRefs (S.filter fun x => kept keep x.1)) (S.filter fun x => kept keep x.1))).γ = (reset (allRefs (S.filter fun x => kept keep x.1)) (S.filter fun x => kept keep x.1)).γ := by
        funext k; unfold St.γ; rw [get_dropA]
      rw [e1, e2]; exact hR
    refine hrel ?_
    clear hrel h
    have hg : ∀ k, (reset (allRefs (S.filter fun x => kept keep x.1)) (S.filter fun x => kept keep x.1)).E k = if kept keep k = true then S.E k else V.dead := by
      intro k
      unfold St.E
      rw [get_reset, get_filter]
      split <;> rfl
    have hkb : ∀ r c, kept keep (.b r c) = true := fun _ _ => rfl
    have hkr : ∀ r, kept keep (.r r) = true := fun _ => rfl
    refine R.forget ?_ ?_ ?_ ?_
    · intro k
      rw [hg]
      split
      · exact .inl (.inl rfl)
      · exact .inr rfl
    · intro r _
      rw [hg, if_pos (hkr r)]
    · intro r c _
      rw [hg, if_pos (hkr r)]
    · intro k y hk hd hy
      rw [hg] at hd
      split at hd
      · rename_i hkk
        have hγ : ∀ z, (z ∈ allRefs (S.filter fun x => kept keep x.1) ∨ ∃ r, z = .r r) → kept keep z = true → (reset (allRefs (S.filter fun x => kept keep x.1)) (S.filter fun x => kept keep x.1)).γ z = S.γ z := by
          intro z hz hkz
          unfold St.γ
          rw [get_reset, get_filter, if_pos hkz]
          simp only [resetG]
          rcases hz with hz | ⟨r, rfl⟩
          · rw [if_pos (by simpa using hz)]
          · split <;> rfl
        rcases V.hangs_refs _ _ hy with hr | ⟨r, rfl⟩
        · have hm : y ∈ allRefs (S.filter fun x => kept keep x.1) := by
            have h0 := get_filter (kept keep) S k
            rw [if_pos hkk] at h0
            rcases get_mem (List.filter (fun x => kept keep x.1) S) k with h1 | h1
            · rw [h0] at h1
              have : S.E k = .one .dead := by unfold St.E; rw [h1]
              rw [this] at hr
              simp [V.refs, C.refs] at hr
            · refine allRefs_mem _ h1 y ?_
              rw [h0]; exact hr
          exact hγ y (.inl hm) (List.all_eq_true.1 hall y hm)
        · exact hγ _ (.inr ⟨r, rfl⟩) (hkr r)
      · exact absurd rfl hd
  · cases h
theorem norm_sound {keep : List Nat} {S' : St} (R : Rel nm N S a w L) (h : S.norm keep = some S') : Rel nm N S' a w L := norm0_sound R h
mutual
theorem C.hangs_roots : ∀ (c : C) (k : Key), k ∈ c.hangs → (∀ r, k.root? = some r → r ∈ c.rootsC)
  | .view pl _ _ _ _, k, h, r, hr => by
    simp only [C.hangs, List.mem_singleton] at h
    subst h
    simp [C.rootsC, hr]
  | .eptr pl _ _ _ _, k, h, r, hr => by
    simp only [C.hangs, List.mem_singleton] at h
    subst h
    simp [C.rootsC, hr]
  | .appd pl _ _ _ _, k, h, r, hr => by
    simp only [C.hangs, List.mem_cons, List.not_mem_nil, or_false] at h
    rcases h with rfl | rfl
    · simp [C.rootsC, hr]
    · cases hr
  | .mref i _, k, h, r, hr => by
    simp only [C.hangs, List.mem_singleton] at h
    subst h
    simp only [Key.root?, Option.some.injEq] at hr
    simp [C.rootsC, hr]
  | .ptr r0 _ _, k, h, r, hr => by
    simp only [C.hangs, List.mem_singleton] at h
    subst h
    simp only [Key.root?, Option.some.injEq] at hr
    simp [C.rootsC, hr]
  | .fn _ a b, k, h, r, hr => by
    simp only [C.hangs, List.mem_append] at h
    simp only [C.rootsC, List.mem_append]
    rcases h with h | h
    · exact .inl (hangsL_roots a k h r hr)
    · exact .inr (hangsL_roots b k h r hr)
  | .d _, k, h, _, _ => by simp [C.hangs] at h
  | .pp _, k, h, _, _ => by simp [C.hangs] at h
  | .nilp, k, h, _, _ => by simp [C.hangs] at h
  | .nilf, k, h, _, _ => by simp [C.hangs] at h
  | .nili, k, h, _, _ => by simp [C.hangs] at h
  | .ifc, k, h, _, _ => by simp [C.hangs] at h
  | .dead, k, h, _, _ => by simp [C.hangs] at h
theorem hangsL_roots : ∀ (l : List C) (k : Key), k ∈ hangsL l → (∀ r, k.root? = some r → r ∈ rootsL l)
  | [], k, h, _, _ => by simp [hangsL] at h
  | c :: t, k, h, r, hr => by
    simp only [hangsL, List.mem_append] at h
    simp only [rootsL, List.mem_append]
    rcases h with h | h
    · exact .inl (C.hangs_roots c k h r hr)
    · exact .inr (hangsL_roots t k h r hr)
end
mutual
theorem V.hangs_roots : ∀ (x : V) (k : Key), k ∈ x.hangs → (∀ r, k.root? = some r → r ∈ x.roots)
  | .one c, k, h, r, hr => C.hangs_roots c k h r hr
  | .agg cs, k, h, r, hr => hangsL_roots cs k h r hr
  | .tup vs, k, h, r, hr => hangsVs_roots vs k h r hr
theorem hangsVs_roots : ∀ (l : List V) (k : Key), k ∈ hangsVs l → (∀ r, k.root? = some r → r ∈ rootsVs l)
  | [], k, h, _, _ => by simp [hangsVs] at h
  | c :: t, k, h, r, hr => by
    simp only [hangsVs, List.mem_append] at h
    simp only [rootsVs, List.mem_append]
    rcases h with h | h
    · exact .inl (V.hangs_roots c k h r hr)
    · exact .inr (hangsVs_roots t k h r hr)
end
theorem gc_sound {S' : St} (R : Rel nm N S a w L) (h : S.gc = some S') : Rel nm N S' a w L := by
  unfold St.gc at h
  dsimp only at h
  generalize growRoots S 3 (slotRoots S) = live at h
  split at h
  · rename_i hall
    simp only [Option.some.injEq] at h
    subst h
    have hget : ∀ k, (loosenAll (S.filter fun x => gcKeep live x.1)).get k = if gcKeep live k = true then ⟨(S.get k).v.loosen, (S.get k).g⟩ else ⟨.one .dead, 0⟩ := by
      intro k
      rw [get_loosen, get_filter]
      split <;> rfl
    have hg : ∀ k, (loosenAll (S.filter fun x => gcKeep live x.1)).E k = if gcKeep live k = true then (S.E k).loosen else V.dead := by
      intro k
      unfold St.E
      rw [hget]
      split <;> rfl
    have hkeq : ∀ r c, gcKeep live (.b r c) = gcKeep live (.r r) := fun _ _ => rfl
    have hsz : ∀ r, gcKeep live (.r r) = true → (loosenAll (S.filter fun x => gcKeep live x.1)).E (.r r) = (S.E (.r r)).loosen := fun r h => by rw [hg, if_pos h]
    have hbn : ∀ x : V, boxN x.loosen = boxN x := by
      intro x
      cases x with
      | one c =>
        cases c with
        | d z => cases z with
          | sl t sz rows => cases t <;> rfl
          | _ => rfl
        | _ => rfl
      | _ => rfl
    have hln : ∀ x : V, boxN x ≠ 0 → x.loosen = x := by
      intro x hx
      cases x with
      | one c =>
        cases c with
        | d z => cases z with
          | sl t sz rows => simp [boxN] at hx
          | _ => rfl
        | _ => rfl
      | _ => rfl
    refine R.forget ?_ ?_ ?_ ?_
    · intro k
      rw [hg]
      split
      · exact .inl (.inr rfl)
      · exact .inr rfl
    · intro r hr
      rw [hg] at hr ⊢
      split at hr
      · rename_i hk
        rw [if_pos hk]
        rw [hbn] at hr
        exact hln _ hr
      · exact absurd rfl hr
    · intro r c hd
      rw [hg] at hd
      split at hd
      · rename_i hk
        rw [hg, if_pos (by rw [← hkeq r c]; exact hk), hbn]
      · exact absurd rfl hd
    · intro k y hk hd hy
      rw [hg] at hd
      split at hd
      · rename_i hkk
        have hkeep : gcKeep live y = true := by
          unfold gcKeep
          split
          · rename_i r hr
            have hm := V.hangs_roots _ _ hy r hr
            have h0 := get_filter (gcKeep live) S k
            rw [if_pos hkk] at h0
            rcases get_mem (List.filter (fun x => gcKeep live x.1) S) k with h1 | h1
            · rw [h0] at h1
              have : S.E k = .one .dead := by unfold St.E; rw [h1]
              rw [this] at hy
              simp [V.hangs, C.hangs] at hy
            · rw [h0] at h1
              have := List.all_eq_true.1 hall _ h1
              exact List.all_eq_true.1 this r hm
          · rfl
        unfold St.γ
        rw [hget, if_pos hkeep]
      · exact absurd rfl hd
  · cases h
theorem reg_sound (hmx : P.follows .mixedOrders = true) (hc : CallOk P nm G Cl) (hN : hh.nt = N) {id : Nat} {draw : Bool} {keep : Option (List Nat)} {gc : Bool} {l : List IOper} (hl : compOps P nm hh ops = some l) (hok : draw = true → edgesOk ops = true) (R : Rel nm N S a w L) (hH : NoH L) (hG : GI G w L) {Sf : St}
    (he : evReg Cl keep gc l (if draw then some (unordered ops) else none) S = some Sf) {Q : Exit → Act → World → Prop} (hQ : ∀ a' w' L', Done nm N Sf w L a' w' L' → Q .normal a' w') : (Code.region id ops draw).wp P Q a w := by
  unfold evReg at he
  obtain ⟨S1, h1, h2⟩ := Option.bind_eq_some_iff.1 he
  obtain ⟨S2, h3, h4⟩ := Option.bind_eq_some_iff.1 h2
  have R1 : Rel nm N S1 a w L := by
    cases keep with
    | none => simp only [Option.some.injEq] at h1; subst h1; exact R
    | some kl => exact norm_sound R h1
  have R2 : Rel nm N S2 a w L := by
    cases gc with
    | false => simp only [Bool.false_eq_true, if_false, Option.some.injEq] at h3; subst h3; exact R1
    | true => simp only [if_true] at h3; exact gc_sound R1 h3
  obtain ⟨g1, g2⟩ := compOps_inv hl
  have hforg : ∀ (l' : List IOper) {S Sf : St} {F : List Foot}, evOpsF Cl l' S = some (Sf, F) → evOps Cl l' S = some Sf := by
    intro l'
    induction l' with
    | nil => intro S Sf F h; simp only [evOpsF, Option.some.injEq, Prod.mk.injEq] at h; simp [evOps, h.1]
    | cons o t ih =>
      intro S Sf F h
      simp only [evOpsF] at h
      simp only [evOps]
      cases hw : (evOper Cl o).run S with
      | none => simp [hw] at h
      | some ws =>
        simp only [hw, Option.bind_some] at h ⊢
        obtain ⟨⟨S1, F1⟩, k1, k2⟩ := map_some' h
        simp only [Prod.mk.injEq] at k2
        rw [k2.1]
        exact ih k1
  cases draw with
  | false =>
    simp only [Bool.false_eq_true, if_false] at h4
    refine wp_region ?_
    rw [List.range_eq_range']
    exact ops_sound hc hN hl ops.size 0 (by omega) R2 hH hG (by simpa using h4) hQ
  | true =>
    have hDrew : Rel nm N S2 a w.drew L := R2.drew
    have hfoot : ∃ F, evOpsF Cl l S2 = some (Sf, F) ∧ pairsOk F (unordered ops) = true := by
      simp only [if_true] at h4
      split at h4
      · rename_i heq; cases heq
      · rename_i hun
        have hrun : ∀ (l' : List IOper) {S Sf : St}, evOps Cl l' S = some Sf → ∃ F, evOpsF Cl l' S = some (Sf, F) := by
          intro l'
          induction l' with
          | nil => intro S Sf h; simp only [evOps, Option.some.injEq] at h; exact ⟨[], by simp [evOpsF, h]⟩
          | cons o t ih =>
            intro S Sf h
            simp only [evOps] at h
            simp only [evOpsF]
            cases hw : (evOper Cl o).run S with
            | none => simp [hw] at h
            | some ws =>
              simp only [hw, Option.bind_some] at h ⊢
              obtain ⟨F, k1⟩ := ih h
              exact ⟨_, by rw [k1]; rfl⟩
        obtain ⟨F, k1⟩ := hrun l h4
        refine ⟨F, k1, ?_⟩
        have : unordered ops = [] := by simpa using hun
        rw [this]; rfl
      · rename_i ps _ hps
        obtain ⟨⟨S3, F⟩, k1, k2⟩ := Option.bind_eq_some_iff.1 h4
        split at k2
        · rename_i hp
          simp only [Option.some.injEq] at k2
          subst k2
          have : unordered ops = ps := by simpa using hps
          exact ⟨F, k1, by rw [this]; exact hp⟩
        · cases k2
    obtain ⟨F, hF, hpairs⟩ := hfoot
    have hFl : F.length = l.length := by
      have : ∀ (l' : List IOper) {S Sf : St} {F : List Foot}, evOpsF Cl l' S = some (Sf, F) → F.length = l'.length := by
        intro l'
        induction l' with
        | nil =>
          intro S Sf F h
          simp only [evOpsF, Option.some.injEq, Prod.mk.injEq] at h
          rw [← h.2]; rfl
        | cons o t ih =>
          intro S Sf F h
          simp only [evOpsF] at h
          cases hw : (evOper Cl o).run S with
          | none => simp [hw] at h
          | some ws =>
            simp only [hw, Option.bind_some] at h
            obtain ⟨⟨S1, F1⟩, k1, k2⟩ := map_some' h
            simp only [Prod.mk.injEq] at k2
            rw [k2.2]
            simp [ih k1]
      exact this l hF
    refine wp_region_any hmx ?_
    have hmap : (List.range ops.size).map (fun i => l.getD i default) = l := by
      apply List.ext_getElem?
      intro i
      rw [List.getElem?_map]
      by_cases hi : i < ops.size
      · rw [List.getElem?_range hi]
        simp [List.getD_eq_getElem?_getD, show i < l.length by omega]
      · rw [List.getElem?_eq_none (by simp; omega), List.getElem?_eq_none (by omega)]; rfl
    have hmapF : (List.range ops.size).map (fun i => F.getD i ⟨[], []⟩) = F := by
      apply List.ext_getElem?
      intro i
      rw [List.getElem?_map]
      by_cases hi : i < ops.size
      · rw [List.getElem?_range hi]
        simp [List.getD_eq_getElem?_getD, show i < F.length by omega]
      · rw [List.getElem?_eq_none (by simp; omega), List.getElem?_eq_none (by omega)]; rfl
    refine any_sound (S := S2) (Sf := Sf) (L := L) hc hN hl (hok rfl) (φ := fun i => F.getD i ⟨[], []⟩) ?_ ops.size (List.range ops.size) _ (by simp) (by simp) List.pairwise_lt_range ?_ ?_ hDrew hH (show GI G w.drew L from hG) (by rw [hmap, hmapF]; exact hF) ?_
    · intro i j hij hj hb
      have hm : (i, j) ∈ unordered ops := by
        unfold unordered
        refine List.mem_flatMap.2 ⟨j, List.mem_range.2 hj, List.mem_filterMap.2 ⟨i, List.mem_range.2 hij, ?_⟩⟩
        rw [hb]; rfl
      have := List.all_eq_true.1 hpairs (i, j) hm
      simp only at this
      rw [List.getElem?_eq_getElem (by omega), List.getElem?_eq_getElem (by omega)] at this
      simp only [List.getD_eq_getElem?_getD, List.getElem?_eq_getElem (show i < F.length by omega), List.getElem?_eq_getElem (show j < F.length by omega), Option.getD_some]
      exact this
    · intro i
      rw [List.mem_range]
      constructor
      · intro hi; exact ⟨hi, by simp [Array.getD_eq_getD_getElem?, hi]⟩
      · exact fun h => h.1
    · intro i o ho hi
      have : i < ops.size := (Array.getElem?_eq_some_iff.1 ho).1
      simp [Array.getD_eq_getD_getElem?, this] at hi
    · intro a' w' L' D
      exact hQ a' w' L' ⟨D.rel, (Mono.drew w L).trans D.mono, D.noH⟩
end
end
section
section
variable {nm : FuncId → Option Nat} {G : Nat → Option Obj} {N : Nat} {P : Program} {Cl : Oracle} {hh : Hint}
def exitOf : IExit → Exit
  | .norm => .normal
  | .exit id => .exit id
  | .ret => .ret
theorem least {p : Nat → Prop} (h : ∃ n, p n) : ∃ n, p n ∧ ∀ m, m < n → ¬ p m := by
  obtain ⟨n, hn⟩ := h
  induction n using Nat.strongRecOn with
  | _ n ih =>
    by_cases hx : ∃ m, m < n ∧ p m
    · obtain ⟨m, h1, h2⟩ := hx
      exact ih m h1 h2
    · exact ⟨n, hn, fun m hm hp => hx ⟨m, hm, hp⟩⟩
theorem code_sound (hmx : P.follows .mixedOrders = true) (hc : CallOk P nm G Cl) (hN : hh.nt = N) (n : Nat) : ∀ (c : Code) {ic : ICode}, compC P nm hh c = some ic → ∀ {S S' : St} {e : IExit}, evC Cl n ic S = some (e, S') →
    ∀ {a : Act} {w : World} {L : LabF}, Rel nm N S a w L → NoH L → GI G w L → ∀ {Q : Exit → Act → World → Prop}, (∀ a' w' L', Done nm N S' w L a' w' L' → Q (exitOf e) a' w') → c.wp P Q a w := by
  have bad : ∀ {S S' : St} {e : IExit}, evC Cl n (.reg none false [⟨none, .bad, none⟩] none) S = some (e, S') → False := by
    intro S S' e h
    simp [evC, evReg, evOps, evOper, guardQ, evOp] at h
  intro c
  induction c with
  | skip =>
    intro ic hcc S S' e he a w L R hH hG Q hQ
    simp only [compC, Option.some.injEq] at hcc
    subst hcc
    simp only [evC, Option.some.injEq, Prod.mk.injEq] at he
    obtain ⟨rfl, rfl⟩ := he
    exact wp_skip (hQ a w L ⟨R, Mono.refl w L, hH⟩)
  | region id ops draw =>
    intro ic hcc S S' e he a w L R hH hG Q hQ
    simp only [compC] at hcc
    obtain ⟨l, h1, h2⟩ := bind_some hcc
    split at h2
    · cases h2
    · rename_i hcond
      cases h2
      simp only [evC] at he
      obtain ⟨Sf, h3, h4⟩ := map_some' he
      simp only [Prod.mk.injEq] at h4
      obtain ⟨rfl, rfl⟩ := h4
      refine reg_sound hmx hc hN h1 (fun hd => ?_) R hH hG h3 hQ
      cases hx : edgesOk ops with
      | true => rfl
      | false => exact absurd ⟨hd, hx⟩ hcond
  | seq x y ihx ihy =>
    intro ic hcc S S' e he a w L R hH hG Q hQ
    simp only [compC] at hcc
    obtain ⟨ix, h1, h2⟩ := bind_some hcc
    obtain ⟨iy, h3, h4⟩ := bind_some h2
    cases h4
    simp only [evC] at he
    obtain ⟨⟨e1, S1⟩, h5, h6⟩ := Option.bind_eq_some_iff.1 he
    refine wp_seq (ihx h1 h5 R hH hG (fun a' w' L' D => ?_))
    cases e1 with
    | norm =>
      simp only at h6
      exact ihy h3 h6 D.rel D.noH (hG.mono D.mono) (fun a'' w'' L'' D' => hQ _ _ _ (D.trans D'))
    | exit id =>
      simp only [Option.some.injEq, Prod.mk.injEq] at h6
      obtain ⟨rfl, rfl⟩ := h6
      exact hQ _ _ _ D
    | ret =>
      simp only [Option.some.injEq, Prod.mk.injEq] at h6
      obtain ⟨rfl, rfl⟩ := h6
      exact hQ _ _ _ D
  | cond c x y ihx ihy =>
    intro ic hcc S S' e he a w L R hH hG Q hQ
    simp only [compC] at hcc
    obtain ⟨cx, h0, h1⟩ := bind_some hcc
    obtain ⟨ix, h2, h3⟩ := bind_some h1
    obtain ⟨iy, h4, h5⟩ := bind_some h3
    cases h5
    simp only [evC] at he
    obtain ⟨t, h6, h7⟩ := Option.bind_eq_some_iff.1 he
    have hb : a.eval c = .bool t := by
      unfold condV at h6
      obtain ⟨v, g1, g2⟩ := Option.bind_eq_some_iff.1 h6
      have rv := rd_val R (lookX_rel h0).1 g1
      split at g2
      · simp only [Option.some.injEq] at g2
        subst g2
        exact rv.one_inv.bool_inv
      · cases g2
    refine wp_cond hb ?_
    cases t with
    | true => exact ihx h2 (by simpa using h7) R hH hG hQ
    | false => exact ihy h4 (by simpa using h7) R hH hG hQ
  | block id b ih =>
    intro ic hcc S S' e he a w L R hH hG Q hQ
    simp only [compC] at hcc
    obtain ⟨ib, h1, rfl⟩ := map_some' hcc
    simp only [evC] at he
    obtain ⟨⟨e1, S1⟩, h2, h3⟩ := map_some' he
    simp only [Prod.mk.injEq] at h3
    obtain ⟨h3, rfl⟩ := h3
    refine wp_block (ih h1 h2 R hH hG (fun a' w' L' D => ?_))
    cases e1 with
    | norm => subst h3; exact hQ _ _ _ D
    | exit i =>
      show Exit.inBlock id Q (.exit i) a' w'
      simp only [Exit.inBlock]
      by_cases hi : i = id
      · subst hi
        simp only [if_true] at h3 ⊢
        subst h3
        exact hQ _ _ _ D
      · simp only [hi, if_false] at h3 ⊢
        subst h3
        exact hQ _ _ _ D
    | ret => subst h3; exact hQ _ _ _ D
  | loop b ih =>
    intro ic hcc S S' e he a w L R hH hG Q hQ
    simp only [compC] at hcc
    obtain ⟨ib, h1, rfl⟩ := map_some' hcc
    simp only [evC] at he
    let Good : Nat → Act → World → Prop := fun m a1 w1 => ∃ S1 L1, Done nm N S1 w L a1 w1 L1 ∧ iter (evC Cl n ib) m S1 = some (e, S')
    let μ : Act → World → Nat := fun a1 w1 => open Classical in if h : ∃ m, Good m a1 w1 then Classical.choose (least h) else 0
    have hμ : ∀ {a1 w1} (h : ∃ m, Good m a1 w1), Good (μ a1 w1) a1 w1 ∧ ∀ m, m < μ a1 w1 → ¬ Good m a1 w1 := by
      intro a1 w1 h
      have := Classical.choose_spec (least h)
      simp only [μ, dif_pos h]
      exact this
    refine wp_loop (fun a1 w1 => ∃ m, Good m a1 w1) μ ⟨n, S, L, ⟨R, Mono.refl w L, hH⟩, he⟩ ?_
    intro a1 w1 hI
    obtain ⟨⟨S1, L1, D1, hit⟩, hmin⟩ := hμ hI
    cases hm : μ a1 w1 with
    | zero => rw [hm] at hit; simp [iter] at hit
    | succ m =>
      rw [hm] at hit
      simp only [iter] at hit
      obtain ⟨⟨e1, S2⟩, h2, h3⟩ := Option.bind_eq_some_iff.1 hit
      refine ih h1 h2 D1.rel D1.noH (hG.mono D1.mono) (fun a' w' L' D => ?_)
      cases e1 with
      | norm =>
        simp only at h3
        have hg : Good m a' w' := ⟨S2, L', D1.trans D, h3⟩
        refine ⟨⟨m, hg⟩, ?_⟩
        rcases Nat.lt_or_ge m (μ a' w') with h | h
        · exact absurd hg ((hμ ⟨m, hg⟩).2 m h)
        · omega
      | exit id =>
        simp only [Option.some.injEq, Prod.mk.injEq] at h3
        obtain ⟨rfl, rfl⟩ := h3
        exact hQ _ _ _ (D1.trans D)
      | ret =>
        simp only [Option.some.injEq, Prod.mk.injEq] at h3
        obtain ⟨rfl, rfl⟩ := h3
        exact hQ _ _ _ (D1.trans D)
  | exit id =>
    intro ic hcc S S' e he a w L R hH hG Q hQ
    simp only [compC, Option.some.injEq] at hcc
    subst hcc
    simp only [evC, Option.some.injEq, Prod.mk.injEq] at he
    obtain ⟨rfl, rfl⟩ := he
    exact wp_exit (hQ a w L ⟨R, Mono.refl w L, hH⟩)
  | ret =>
    intro ic hcc S S' e he a w L R hH hG Q hQ
    simp only [compC, Option.some.injEq] at hcc
    subst hcc
    simp only [evC, Option.some.injEq, Prod.mk.injEq] at he
    obtain ⟨rfl, rfl⟩ := he
    exact wp_ret (hQ a w L ⟨R, Mono.refl w L, hH⟩)
  | _ =>
    intros
    rename_i hcc S S' e he a w L R hH hG Q hQ
    simp only [compC, Option.some.injEq] at hcc
    subst hcc
    exact (bad he).elim
end
end
section
section
variable {nm : FuncId → Option Nat} {N : Nat} {S S0 : St} {a : Act} {w w0 : World} {L L0 : LabF} {P : Program} {o : Oper} {Cl : Oracle} {d : Nat} {ws : List Wr} {γ : Key → Nat}
def frzH (L : LabF) : LabF := fun B =>
  match L B with
  | some (.row q o) => if q.k = .h 0 then some .imm else some (.row q o)
  | x => x
theorem frzH_imm {B : Nat} (h : L B = some .imm) : frzH L B = some .imm := by simp [frzH, h]
theorem frzH_box {B o : Nat} {r : Root} : frzH L B = some (.box r o) ↔ L B = some (.box r o) := by
  unfold frzH
  split
  · rename_i q o' hL
    rw [hL]
    split <;> simp
  · rfl
theorem frzH_none {B : Nat} (h : L B = none) : frzH L B = none := by simp [frzH, h]
theorem frzH_row {B o : Nat} {q : Place} (h : L B = some (.row q o)) (hq : q.k ≠ .h 0) : frzH L B = some (.row q o) := by simp [frzH, h, hq]
theorem frzH_mov {B o : Nat} {q : Place} (h : L B = some (.row q o)) (hq : q.k = .h 0) : frzH L B = some .imm := by simp [frzH, h, hq]
theorem frzH_row' {B o : Nat} {q : Place} (h : frzH L B = some (.row q o)) : L B = some (.row q o) ∧ q.k ≠ .h 0 := by
  unfold frzH at h
  split at h
  · rename_i q0 o0 hL
    split at h
    · cases h
    · rename_i hq
      simp only [Option.some.injEq, Lab.row.injEq] at h
      obtain ⟨rfl, rfl⟩ := h
      exact ⟨hL, hq⟩
  · rename_i h1; exact absurd h (h1 q o)
theorem frzH_dom {B : Nat} {l : Lab} (h : frzH L B = some l) : ∃ l0, L B = some l0 := by
  unfold frzH at h
  split at h
  · rename_i q0 o0 hL; exact ⟨_, hL⟩
  · exact ⟨_, h⟩
theorem Mid.frz (M : Mid nm N S0 w0 L0 ws a w L) : Mid nm N S0 w0 L0 ws a w (frzH L) ∧ Step w w L (frzH L) (S0.wrs ws).γ (S0.wrs ws).γ := by
  have hpl : ∀ {q : Place}, q.k.isPl = true → q.k ≠ .h 0 := fun h e => by rw [e] at h; simp [Key.isPl] at h
  have hst : Step w w L (frzH L) (S0.wrs ws).γ (S0.wrs ws).γ :=
    ⟨fun B hB => ⟨frzH_imm hB, rfl⟩, fun _ => Nat.le_refl _, fun B q o hq _ hB => ⟨frzH_row hB (hpl hq), fun cur e fz h => ⟨cur, h, rfl⟩⟩, fun _ _ _ _ _ _ _ => rfl, fun B r o _ hB => frzH_box.2 hB⟩
  refine ⟨⟨M.rel.growH ?_ ?_ ?_ ?_, M.stp.trans hst, M.mono.trans ⟨rfl, rfl, rfl, Nat.le_refl _, fun B hB => ⟨frzH_imm hB, rfl⟩, fun B _ hB => ⟨frzH_none hB, rfl⟩, fun B i o hB => frzH_box.2 hB⟩, ?_, M.heap, M.inj0, fun B r o hB => frzH_box.2 (M.boxes B r o hB)⟩, hst⟩
  · intro B l hB hl
    refine ⟨rfl, ?_⟩
    cases l with
    | imm => exact frzH_imm hB
    | box r o => exact frzH_box.2 hB
    | row q o => exact frzH_row hB (hpl (hl q o rfl))
  · intro B l hB
    obtain ⟨l0, h0⟩ := frzH_dom hB
    exact M.rel.dom B l0 h0
  · intro B B' pl o o' h1 h2
    exact M.rel.rowInj B B' pl o o' (frzH_row' h1).1 (frzH_row' h2).1
  · intro B B' r o o' h1 h2
    exact M.rel.boxInj B B' r o o' (frzH_box.1 h1) (frzH_box.1 h2)
  · intro B q o hq hB
    exact M.rows B q o hq (frzH_row' hB).1
theorem plainD_clean (x : D) : (C.d (plainD x)).clean = true := by
  cases x with
  | sl t sz rows => cases t <;> rfl
  | _ => rfl
theorem RepC.plainH {k' : Key} {j j' : Nat} {c : C} {v : Value} (hst : Step w w L (frzH L) γ γ) (h : RepC nm w L γ (.h 0) j c v) (hc : ∀ pl g a sz rows, c ≠ .appd pl g a sz rows) : RepC nm w (frzH L) γ k' j' c.plain v ∧ c.plain.clean = true := by
  cases c with
  | d x =>
    cases h with
    | d h =>
      exact ⟨.d (.plain (RepD.freeze (fun q => q.k = .h 0) (fun _ _ _ h => h) (fun B hB => ⟨frzH_imm hB, rfl⟩) (fun B q o hq hL => ⟨frzH_mov hL hq, rfl⟩) h rfl)), plainD_clean x⟩
  | appd pl g a sz rows => exact absurd rfl (hc pl g a sz rows)
  | bld t => exact absurd rfl (h.nbld t)
  | mp x => exact ⟨.dead, rfl⟩
  | _ => exact ⟨h.stepClean hst (h.clean_of rfl) _ _, h.clean_of rfl⟩
theorem st_noappd {c : C} {rr : C × List Wr} (h : (st ws c).run S = some rr) : ∀ pl g a sz rows, rr.1 ≠ .appd pl g a sz rows := by
  intro pl g a sz rows e
  cases c with
  | view pl' g' sz' off len =>
    simp only [st] at h
    obtain ⟨res, h1, h2⟩ := Q.run_bind_some h
    obtain ⟨_, h3⟩ := Q.run_guard_some h2
    obtain rfl := Q.run_pure_some h3
    cases e
  | appd pl' g' a' sz' rows' =>
    simp only [st] at h
    obtain ⟨res, h1, h2⟩ := Q.run_bind_some h
    have h3 := Q.run_at_some h2
    obtain ⟨_, h4⟩ := Q.run_guard_some h3
    obtain rfl := Q.run_pure_some h4
    cases e
  | eptr => simp [st] at h
  | bld => simp [st] at h
  | mp => simp [st] at h
  | mref => simp [st] at h
  | dead => simp [st] at h
  | _ => simp only [st] at h; obtain rfl := Q.run_pure_some h; cases e
theorem stL_noappd : ∀ (cs : List C) {ws : List Wr} {rr : List C × List Wr}, (stL ws cs).run S = some rr → ∀ c ∈ rr.1, ∀ pl g a sz rows, c ≠ .appd pl g a sz rows
  | [], ws, rr, h, c, hc => by
    simp only [stL] at h
    obtain rfl := Q.run_pure_some h
    simp at hc
  | x :: cs, ws, rr, h, c, hc => by
    simp only [stL] at h
    obtain ⟨r1, h1, h2⟩ := Q.run_bind_some h
    obtain ⟨r2, h3, h4⟩ := Q.run_bind_some h2
    obtain rfl := Q.run_pure_some h4
    rcases List.mem_cons.1 hc with rfl | hc
    · exact st_noappd h1
    · exact stL_noappd cs h3 c hc
theorem noH_frz (M : Mid nm N S0 w0 L0 ws a w L) (h : ∀ B q o, L B = some (.row q o) → q.k.isPl = false → q.k = .h 0) : NoH (frzH L) := by
  intro B q o hB
  obtain ⟨h1, h2⟩ := frzH_row' hB
  cases hq : q.k.isPl with
  | true => rfl
  | false => exact absurd (h B q o h1 hq) h2
theorem cleanL_map {cs : List C} (h : ∀ (j : Nat) c, cs[j]? = some c → c.clean = true) : cleanL cs = true := by
  induction cs with
  | nil => rfl
  | cons c t ih =>
    simp only [cleanL, Bool.and_eq_true]
    exact ⟨h 0 c rfl, ih (fun j c' hj => h (j + 1) c' (by simpa using hj))⟩
theorem rdArgs_rep (R0 : Rel nm N S0 a w0 L0) : ∀ (xs : List (Bool × X)) (ps : List Operand) {ws : List Wr} {L : LabF} (M : Mid nm N S0 w0 L0 ws a w L) (hH : NoH L) (hp : xs.length = ps.length) (hx : ∀ (j : Nat) X x, xs[j]? = some X → ps[j]? = some x → OpRel nm X.2 x ∧ X.2.okC = true) {rr : List V × List Wr} (hr : (rdArgs ws xs).run S0 = some rr),
    ∃ L', Mid nm N S0 w0 L0 rr.2 a w L' ∧ NoH L' ∧ Step w w L L' (S0.wrs ws).γ (S0.wrs rr.2).γ ∧ rr.1.length = ps.length ∧ cleanVs rr.1 = true ∧ ∀ (j : Nat) x p, rr.1[j]? = some x → ps[j]? = some p → RepV nm w L' (S0.wrs rr.2).γ (.h 0) x (a.eval p)
  | [], [], ws, L, M, hH, hp, hx, rr, hr => by
    simp only [rdArgs] at hr
    obtain rfl := Q.run_pure_some hr
    exact ⟨L, M, hH, Step.same w L (fun _ => Nat.le_refl _), rfl, rfl, fun j x p h => by simp at h⟩
  | (b, X) :: xs, p :: ps, ws, L, M, hH, hp, hx, rr, hr => by
    simp only [rdArgs] at hr
    obtain ⟨⟨v, ws1⟩, h1, h2⟩ := Q.run_bind_some hr
    clear hr
    dsimp only at h2
    obtain ⟨hX, hXo⟩ := hx 0 (b, X) p rfl rfl
    obtain ⟨L1, O1, V1⟩ := tk_rep M R0 (hH.free 0) hXo hX h1
    dsimp only at O1 V1
    have fin : ∀ {ws2 : List Wr} {L2 : LabF} {x' : V} {rest : List V × List Wr}, Mid nm N S0 w0 L0 ws2 a w L2 → NoH L2 → Step w w L L2 (S0.wrs ws).γ (S0.wrs ws2).γ → x'.clean = true → RepV nm w L2 (S0.wrs ws2).γ (.h 0) x' (a.eval p) → (rdArgs ws2 xs).run S0 = some rest → rr = (x' :: rest.1, rest.2) →
        ∃ L', Mid nm N S0 w0 L0 rr.2 a w L' ∧ NoH L' ∧ Step w w L L' (S0.wrs ws).γ (S0.wrs rr.2).γ ∧ rr.1.length = (p :: ps).length ∧ cleanVs rr.1 = true ∧ ∀ (j : Nat) x p', rr.1[j]? = some x → (p :: ps)[j]? = some p' → RepV nm w L' (S0.wrs rr.2).γ (.h 0) x (a.eval p') := by
      intro ws2 L2 x' rest M2 hH2 st2 hcl rep h5 hrr
      obtain ⟨L3, M3, hH3, st3, hl3, hc3, R3⟩ := rdArgs_rep R0 xs ps M2 hH2 (by simpa using hp) (fun j X x h1 h2 => hx (j + 1) X x (by simpa using h1) (by simpa using h2)) h5
      subst hrr
      refine ⟨L3, M3, hH3, st2.trans st3, by simp [hl3], by simp [cleanVs, hcl, hc3], ?_⟩
      intro j x p' hj hp'
      cases j with
      | zero =>
        simp only [List.getElem?_cons_zero, Option.some.injEq] at hj hp'
        subst hj; subst hp'
        exact rep.stepClean st3 hcl _
      | succ j => exact R3 j x p' (by simpa using hj) (by simpa using hp')
    have limO : ∀ {ws1 : List Wr} {L1 : LabF} {K : Place → Prop}, Out nm N S0 w0 L0 ws ws1 a w L L1 K 0 → ∀ B q o, L1 B = some (.row q o) → q.k.isPl = false → q.k = .h 0 := by
      intro ws1 L1 K O B q o hB hq
      by_cases hk : q.k = .h 0
      · exact hk
      · have := hH B q o (O.onlyH B q o hq hk hB)
        rw [hq] at this; cases this
    split at h2
    · rename_i c
      obtain ⟨⟨c', ws2⟩, h3, h4⟩ := Q.run_bind_some h2
      clear h2
      obtain ⟨⟨vs, ws3⟩, h5, h6⟩ := Q.run_bind_some h4
      clear h4
      have hrr := Q.run_pure_some h6
      obtain ⟨L2, O2, R2⟩ := st_rep (m := 0) (j := 0) (c := c) (v := a.eval p) O1.mid V1 h3
      dsimp only at O2 R2 h5
      have O12 := (O1.weaken (K' := fun q => ¬ (q.k = .h 0 ∧ q.j = 0)) (fun _ _ => trivial)).trans O2
      obtain ⟨M3, st3⟩ := O2.mid.frz
      obtain ⟨R3, hcl⟩ := RepC.plainH (k' := .h 0) (j' := 0) st3 R2 (st_noappd h3)
      exact fin M3 (noH_frz O2.mid (limO O12)) (O12.stp.trans st3) (x' := .one c'.plain) hcl (.one R3) h5 hrr
    · rename_i cs
      obtain ⟨⟨cs', ws2⟩, h3, h4⟩ := Q.run_bind_some h2
      clear h2
      obtain ⟨⟨vs, ws3⟩, h5, h6⟩ := Q.run_bind_some h4
      clear h4
      have hrr := Q.run_pure_some h6
      obtain ⟨us, hus, hl, hV⟩ := V1
      obtain ⟨L2, O2, l2, R2⟩ := stL_rep (m := 0) cs O1.mid 0 (fun j => us.getD j undef) (fun j c hc => by
        have hj : j < us.size := by rw [← hl]; exact (List.getElem?_eq_some_iff.1 hc).1
        have := hV j c _ hc (Array.getElem?_eq_getElem hj)
        simpa [Array.getD, hj] using this) h3
      dsimp only at O2 R2 h5 l2
      have O12 := (O1.weaken (K' := fun q => ¬ (q.k = .h 0 ∧ 0 ≤ q.j)) (fun _ _ => trivial)).trans O2
      obtain ⟨M3, st3⟩ := O2.mid.frz
      have each : ∀ (j : Nat) c, (cs'.map C.plain)[j]? = some c → c.clean = true ∧ ∀ u, us[j]? = some u → RepC nm w (frzH L2) (S0.wrs ws2).γ (.h 0) j c u := by
        intro j c hc
        rw [List.getElem?_map] at hc
        cases hj : cs'[j]? with
        | none => simp [hj] at hc
        | some c0 =>
          simp only [hj, Option.map_some, Option.some.injEq] at hc
          subst hc
          have := R2 j c0 hj
          rw [Nat.zero_add] at this
          have hp := RepC.plainH (k' := .h 0) (j' := j) st3 this (stL_noappd _ h3 c0 (List.mem_of_getElem? hj))
          refine ⟨hp.2, fun u hu => ?_⟩
          have h1 := hp.1
          simp only [Array.getD_eq_getD_getElem?, hu, Option.getD_some] at h1
          exact h1
      refine fin M3 (noH_frz O2.mid (limO O12)) (O12.stp.trans st3) (x' := .agg (cs'.map C.plain)) (cleanL_map (fun j c hc => (each j c hc).1)) ?_ h5 hrr
      rw [hus]
      exact .agg (by simp [l2, hl]) (fun j c u hc hu => (each j c hc).2 u hu)
    · cases h2
  | [], _ :: _, _, _, _, _, hp, _, _, _ => by simp at hp
  | _ :: _, [], _, _, _, _, hp, _, _, _ => by simp at hp
end
end
section
theorem rootIdx_inv : ∀ (rs : List Root) {r : Root} {i k : Nat}, rootIdx rs r i = some k → i ≤ k ∧ rs[k - i]? = some r
  | [], r, i, k, h => by simp [rootIdx] at h
  | x :: t, r, i, k, h => by
    simp only [rootIdx] at h
    split at h
    · rename_i hx
      simp only [Option.some.injEq] at h
      subst h; subst hx
      exact ⟨Nat.le_refl _, by simp⟩
    · obtain ⟨h1, h2⟩ := rootIdx_inv t h
      refine ⟨by omega, ?_⟩
      rw [show k - i = (k - (i + 1)) + 1 by omega, List.getElem?_cons_succ]
      exact h2
theorem rootIdx_of : ∀ (rs : List Root) {r : Root} {i k : Nat}, rs.Nodup → rs[k]? = some r → rootIdx rs r i = some (i + k)
  | [], r, i, k, _, h => by simp at h
  | x :: t, r, i, k, hn, h => by
    simp only [rootIdx]
    cases k with
    | zero => simp at h; subst h; simp
    | succ k =>
      rw [List.getElem?_cons_succ] at h
      have hne : x ≠ r := by
        rintro rfl
        exact (List.nodup_cons.1 hn).1 (List.mem_of_getElem? h)
      rw [if_neg hne, rootIdx_of t (List.nodup_cons.1 hn).2 h]
      congr 1; omega
def enterL (rs : List Root) (E : Key → V) (L : LabF) : LabF := fun B =>
  match L B with
  | some .imm => some .imm
  | some (.box r o) => (rootIdx rs r 0).map fun i => .box (.e i) o
  | some (.row ⟨.b r c, j, p⟩ o) => match rootIdx rs r 0, E (.b r c) with
    | some i, .one (.d _) => some (.row ⟨.b (.e i) c, j, p⟩ o)
    | _, _ => none
  | _ => none
section
variable {nm : FuncId → Option Nat} {N : Nat} {S S0 : St} {a : Act} {w w0 : World} {L L0 : LabF} {P : Program} {o : Oper} {Cl : Oracle} {d : Nat} {ws : List Wr} {γ : Key → Nat} {rs : List Root} {E : Key → V}
theorem enterL_imm {B : Nat} (h : L B = some .imm) : enterL rs E L B = some .imm := by simp [enterL, h]
theorem enterL_box {B o i : Nat} {r : Root} (h : L B = some (.box r o)) (hi : rootIdx rs r 0 = some i) : enterL rs E L B = some (.box (.e i) o) := by simp [enterL, h, hi]
theorem enterL_row {B o i c j : Nat} {r : Root} {p : List (Nat × Nat)} {x : D} (h : L B = some (.row ⟨.b r c, j, p⟩ o)) (hi : rootIdx rs r 0 = some i) (hE : E (.b r c) = .one (.d x)) : enterL rs E L B = some (.row ⟨.b (.e i) c, j, p⟩ o) := by
  simp [enterL, h, hi, hE]
theorem enterL_back {B : Nat} {l : Lab} (h : enterL rs E L B = some l) : (l = .imm ∧ L B = some .imm) ∨ (∃ r o i, l = .box (.e i) o ∧ L B = some (.box r o) ∧ rootIdx rs r 0 = some i) ∨
    ∃ r c j p o i x, l = .row ⟨.b (.e i) c, j, p⟩ o ∧ L B = some (.row ⟨.b r c, j, p⟩ o) ∧ rootIdx rs r 0 = some i ∧ E (.b r c) = .one (.d x) := by
  unfold enterL at h
  split at h
  · simp only [Option.some.injEq] at h; exact .inl ⟨h.symm, ‹_›⟩
  · rename_i r o hL
    obtain ⟨i, h1, h2⟩ := map_some' h
    exact .inr (.inl ⟨r, o, i, h2, hL, h1⟩)
  · rename_i r c j p o hL
    split at h
    · rename_i i x h1 h2
      simp only [Option.some.injEq] at h
      exact .inr (.inr ⟨r, c, j, p, o, i, x, h.symm, hL, h1, h2⟩)
    · cases h
  · cases h
theorem inL_get : ∀ {l l' : List C} (j : Nat) {c' : C}, inL rs l = some l' → l'[j]? = some c' → ∃ c, l[j]? = some c ∧ c.inC rs = some c'
  | [], l', j, c', h, hj => by simp only [inL, Option.some.injEq] at h; subst h; simp at hj
  | c :: t, l', j, c', h, hj => by
    simp only [inL] at h
    obtain ⟨c1, h1, h2⟩ := Option.bind_eq_some_iff.1 h
    obtain ⟨t1, h3, rfl⟩ := map_some' h2
    cases j with
    | zero => simp at hj; subst hj; exact ⟨c, rfl, h1⟩
    | succ j => obtain ⟨c2, g1, g2⟩ := inL_get j h3 (by simpa using hj); exact ⟨c2, by simpa using g1, g2⟩
theorem inL_length : ∀ {l l' : List C}, inL rs l = some l' → l'.length = l.length
  | [], l', h => by simp only [inL, Option.some.injEq] at h; subst h; rfl
  | c :: t, l', h => by
    simp only [inL] at h
    obtain ⟨c1, h1, h2⟩ := Option.bind_eq_some_iff.1 h
    obtain ⟨t1, h3, rfl⟩ := map_some' h2
    simp [inL_length h3]
theorem ptrsL_mem : ∀ {l : List C} {j : Nat} {c : C} {x : Root × Nat}, l[j]? = some c → x ∈ c.ptrs → x ∈ ptrsL l
  | [], _, _, _, h, _ => by simp at h
  | y :: t, 0, c, x, h, hx => by simp at h; subst h; simp [ptrsL, hx]
  | y :: t, j + 1, c, x, h, hx => by simp only [ptrsL, List.mem_append]; exact .inr (ptrsL_mem (by simpa using h) hx)
mutual
theorem inC_clean : ∀ {c c' : C}, c.clean = true → c.inC rs = some c' → c'.clean = true
  | .d x, c', h, hi => by simp only [C.inC, Option.some.injEq] at hi; subst hi; exact h
  | .ptr r g k, c', h, hi => by simp only [C.inC] at hi; obtain ⟨i, _, rfl⟩ := map_some' hi; rfl
  | .pp cells, c', h, hi => by simp only [C.inC, Option.some.injEq] at hi; subst hi; rfl
  | .fn f x y, c', h, hi => by
    simp only [C.inC] at hi
    obtain ⟨x', h1, h2⟩ := Option.bind_eq_some_iff.1 hi
    obtain ⟨y', h3, rfl⟩ := map_some' h2
    simp only [C.clean, Bool.and_eq_true] at h ⊢
    exact ⟨inL_clean h.1 h1, inL_clean h.2 h3⟩
  | .nilp, c', h, hi => by simp only [C.inC, Option.some.injEq] at hi; subst hi; rfl
  | .nilf, c', h, hi => by simp only [C.inC, Option.some.injEq] at hi; subst hi; rfl
  | .nili, c', h, hi => by simp only [C.inC, Option.some.injEq] at hi; subst hi; rfl
  | .ifc, c', h, hi => by simp only [C.inC, Option.some.injEq] at hi; subst hi; rfl
  | .dead, c', h, hi => by simp only [C.inC, Option.some.injEq] at hi; subst hi; rfl
  | .eptr .., c', h, hi => by simp [C.inC] at hi
  | .view .., c', h, hi => by simp [C.inC] at hi
  | .appd .., c', h, hi => by simp [C.inC] at hi
  | .mp _, c', h, hi => by simp [C.inC] at hi
  | .mref .., c', h, hi => by simp [C.inC] at hi
theorem inL_clean : ∀ {l l' : List C}, cleanL l = true → inL rs l = some l' → cleanL l' = true
  | [], l', h, hi => by simp only [inL, Option.some.injEq] at hi; subst hi; rfl
  | c :: t, l', h, hi => by
    simp only [inL] at hi
    obtain ⟨c1, h1, h2⟩ := Option.bind_eq_some_iff.1 hi
    obtain ⟨t1, h3, rfl⟩ := map_some' h2
    simp only [cleanL, Bool.and_eq_true] at h ⊢
    exact ⟨inC_clean h.1 h1, inL_clean h.2 h3⟩
end
theorem RepC.enter {k : Key} {j : Nat} {c : C} {v : Value} (h : RepC nm w L γ k j c v) : ∀ {c' : C}, c.inC rs = some c' → (∀ x ∈ c.ptrs, x.2 = γ (.r x.1)) → c.clean = true → ∀ k' j', RepC nm w (enterL rs E L) (fun _ => 0) k' j' c' v := by
  induction h with
  | @d x v h =>
    intro c' hi hl hc k' j'
    simp only [C.inC, Option.some.injEq] at hi
    subst hi
    cases h with
    | plain h => exact .d (.plain (h.mono (fun B hB => ⟨enterL_imm hB, rfl⟩)))
    | ownE => simp [C.clean] at hc
    | own => simp [C.clean] at hc
  | @ptr r g c v hv hg h =>
    intro c' hi hl hc k' j'
    simp only [C.inC] at hi
    obtain ⟨i, h1, rfl⟩ := map_some' hi
    have hlive := hl (r, g) (by simp [C.ptrs])
    obtain ⟨B, o, h2, h3⟩ := h hlive
    exact .ptr hv (Nat.le_refl _) (fun _ => ⟨B, o, enterL_box h2 h1, h3⟩)
  | eptr => intro c' hi; simp [C.inC] at hi
  | pp hL hB h =>
    intro c' hi hl hc k' j'
    simp only [C.inC, Option.some.injEq] at hi
    subst hi
    refine .pp (enterL_imm hL) hB (fun q x hx => ?_)
    obtain ⟨u, h1, h2⟩ := h q x hx
    exact ⟨u, h1, h2.mono (fun B hB => ⟨enterL_imm hB, rfl⟩)⟩
  | view => intro c' hi; simp [C.inC] at hi
  | appd => intro c' hi; simp [C.inC] at hi
  | mp => intro c' hi; simp [C.inC] at hi
  | mref => intro c' hi; simp [C.inC] at hi
  | @fns f l v B o cap cur e fz val hf hL hB hcl hv h ih =>
    intro c' hi hl hc k' j'
    have hcl' := inC_clean hc hi
    simp only [C.inC] at hi
    obtain ⟨x', g1, g2⟩ := Option.bind_eq_some_iff.1 hi
    obtain ⟨y', g3, rfl⟩ := map_some' g2
    simp only [inL, Option.some.injEq] at g1
    subst g1
    simp only [C.clean, Bool.and_eq_true] at hcl'
    simp only [C.ptrs, List.mem_append] at hl
    have hlen := inL_length g3
    refine .fns val (by rw [hlen]; exact hf) (enterL_imm hL) hB hcl'.2 (by rw [hlen]; exact hv) ?_
    intro i x hx
    obtain ⟨c0, k1, k2⟩ := inL_get i g3 hx
    exact ih i c0 k1 k2 (fun y hy => hl y (.inr (ptrsL_mem k1 hy))) (cleanL_get hcl k1) _ _
  | @fn f first cap fid fs cs hft hf h1 h2 hcl h3 h4 ih3 ih4 =>
    intro c' hi hl hc k' j'
    have hcl' := inC_clean hc hi
    simp only [C.inC] at hi
    obtain ⟨x', g1, g2⟩ := Option.bind_eq_some_iff.1 hi
    obtain ⟨y', g3, rfl⟩ := map_some' g2
    simp only [C.clean, Bool.and_eq_true] at hcl'
    simp only [C.ptrs, List.mem_append] at hl
    refine .fn hft hf (by rw [inL_length g1]; exact h1) (by rw [inL_length g3]; exact h2) hcl' ?_ ?_
    · intro i x u hx hu
      obtain ⟨c0, k1, k2⟩ := inL_get i g1 hx
      exact ih3 i c0 u k1 hu k2 (fun y hy => hl y (.inl (ptrsL_mem k1 hy))) (cleanL_get hcl.1 k1) _ _
    · intro i x u hx hu
      obtain ⟨c0, k1, k2⟩ := inL_get i g3 hx
      exact ih4 i c0 u k1 hu k2 (fun y hy => hl y (.inr (ptrsL_mem k1 hy))) (cleanL_get hcl.2 k1) _ _
  | nilp => intro c' hi _ _ _ _; simp only [C.inC, Option.some.injEq] at hi; subst hi; exact .nilp
  | nilf => intro c' hi _ _ _ _; simp only [C.inC, Option.some.injEq] at hi; subst hi; exact .nilf
  | nili => intro c' hi _ _ _ _; simp only [C.inC, Option.some.injEq] at hi; subst hi; exact .nili
  | ifc => intro c' hi _ _ _ _; simp only [C.inC, Option.some.injEq] at hi; subst hi; exact .ifc
  | bld => intro c' hi _ hc; simp [C.clean] at hc
  | dead => intro c' hi _ _ _ _; simp only [C.inC, Option.some.injEq] at hi; subst hi; exact .dead
theorem inC_bld {rs : List Root} {c c' : C} (hi : c.inC rs = some c') {B o k : Nat} {e : TypeId} {n : Nat} {v : Value} (h : BldOk c B o k e n v) : BldOk c' B o k e n v := by
  cases c' with
  | bld t =>
    cases c with
    | bld t' => simp only [C.inC, Option.some.injEq, C.bld.injEq] at hi; subst hi; exact h
    | ptr r g c => simp only [C.inC] at hi; obtain ⟨i, _, h2⟩ := map_some' hi; cases h2
    | fn f a b => simp only [C.inC] at hi; obtain ⟨_, _, h2⟩ := Option.bind_eq_some_iff.1 hi; obtain ⟨_, _, h3⟩ := map_some' h2; cases h3
    | _ => simp [C.inC] at hi
  | _ => trivial
theorem RepC.enterBox {r : Root} {c0 i : Nat} {c : C} {v : Value} (h : RepC nm w L γ (.b r c0) 0 c v) {c' : C} (hi : c.inC rs = some c') (hl : ∀ x ∈ c.ptrs, x.2 = γ (.r x.1)) (hE : E (.b r c0) = .one c) (hr : rootIdx rs r 0 = some i) :
    RepC nm w (enterL rs E L) (fun _ => 0) (.b (.e i) c0) 0 c' v := by
  cases c with
  | d x =>
    simp only [C.inC, Option.some.injEq] at hi
    subst hi
    cases h with
    | d h =>
      refine .d ?_
      exact RepD.move (fun q => ⟨.b (.e i) c0, q.j, q.p⟩) (fun q => q.k = .b r c0) (fun _ _ _ h => h) (fun _ _ _ _ => rfl) (fun B hB => ⟨enterL_imm hB, rfl⟩) (fun B q o hq hL => by
        obtain ⟨k, j, p⟩ := q
        simp only at hq
        subst hq
        exact ⟨enterL_row hL hr hE, rfl⟩) h rfl
  | appd => simp [C.inC] at hi
  | mp => simp [C.inC] at hi
  | bld t =>
    simp only [C.inC, Option.some.injEq] at hi
    subst hi
    cases h with
    | bld hk hv => exact .bld ⟨_, _, rfl⟩ hv
  | _ => exact h.enter hi hl (h.clean_of rfl) _ _
theorem argEnts_get : ∀ (vs : List V) (i : Nat) (rest : St) (k : Key), St.get (argEnts i vs ++ rest) k = match k with
    | .s j => if i ≤ j ∧ j < i + vs.length then ⟨vs.getD (j - i) V.dead, 0⟩ else rest.get (.s j)
    | k => rest.get k
  | [], i, rest, k => by
    simp only [argEnts, List.nil_append]
    cases k <;> simp
    intro h1 h2; omega
  | v :: vs, i, rest, k => by
    simp only [argEnts, List.cons_append, St.get]
    have ih := argEnts_get vs (i + 1) rest k
    cases k with
    | s j =>
      simp only at ih ⊢
      by_cases h : i = j
      · subst h; simp
      · rw [if_neg (by simpa using h), ih]
        by_cases h2 : i + 1 ≤ j ∧ j < i + 1 + vs.length
        · rw [if_pos h2, if_pos ⟨by omega, by simp; omega⟩, show j - i = (j - (i + 1)) + 1 by omega]; rfl
        · rw [if_neg h2, if_neg (by simp; omega)]
    | _ => simpa using ih
theorem boxEnts_get (r : Root) : ∀ (cs : List C) (c0 : Nat) (rest : St) (k : Key), St.get (boxEnts r c0 cs ++ rest) k = match k with
    | .b r' c => if r' = r ∧ c0 ≤ c ∧ c < c0 + cs.length then ⟨.one (cs.getD (c - c0) .dead), 0⟩ else rest.get (.b r' c)
    | k => rest.get k
  | [], c0, rest, k => by
    simp only [boxEnts, List.nil_append]
    cases k <;> simp
    intro _ h1 h2; omega
  | x :: cs, c0, rest, k => by
    simp only [boxEnts, List.cons_append, St.get]
    have ih := boxEnts_get r cs (c0 + 1) rest k
    cases k with
    | b r' c =>
      simp only at ih ⊢
      by_cases h : r = r' ∧ c0 = c
      · obtain ⟨rfl, rfl⟩ := h; simp
      · rw [if_neg (by simpa using h), ih]
        by_cases h2 : r' = r ∧ c0 + 1 ≤ c ∧ c < c0 + 1 + cs.length
        · rw [if_pos h2, if_pos ⟨h2.1, by omega, by simp; omega⟩, show c - c0 = (c - (c0 + 1)) + 1 by omega]; rfl
        · rw [if_neg h2, if_neg]
          rintro ⟨h3, h4, h5⟩
          subst h3
          simp only [List.length_cons] at h5
          by_cases h6 : c0 = c
          · exact h ⟨rfl, h6⟩
          · exact h2 ⟨rfl, by omega, by omega⟩
    | _ => simpa using ih
theorem boxesEnts_get : ∀ (bs : List (List C)) (i : Nat) (k : Key), St.get (boxesEnts i bs) k = match k with
    | .r (.e j) => if i ≤ j ∧ j < i + bs.length then ⟨sizeV (bs.getD (j - i) []).length, 0⟩ else ⟨.one .dead, 0⟩
    | .b (.e j) c => if (i ≤ j ∧ j < i + bs.length) ∧ c < (bs.getD (j - i) []).length then ⟨.one ((bs.getD (j - i) []).getD c .dead), 0⟩ else ⟨.one .dead, 0⟩
    | _ => ⟨.one .dead, 0⟩
  | [], i, k => by
    simp only [boxesEnts, St.get]
    cases k with
    | r x => cases x <;> simp
             intro h1 h2; omega
    | b x c => cases x <;> simp
    | _ => rfl
  | b :: bs, i, k => by
    simp only [boxesEnts, St.get]
    have ih := boxesEnts_get bs (i + 1) k
    rw [boxEnts_get]
    cases k with
    | r x =>
      cases x with
      | e j =>
        simp only at ih ⊢
        by_cases h : i = j
        · subst h; simp
        · rw [if_neg (by simpa using h), ih]
          by_cases h2 : i + 1 ≤ j ∧ j < i + 1 + bs.length
          · rw [if_pos h2, if_pos ⟨by omega, by simp; omega⟩, show j - i = (j - (i + 1)) + 1 by omega]; rfl
          · rw [if_neg h2, if_neg (by simp; omega)]
      | _ => simpa using ih
    | b x c =>
      cases x with
      | e j =>
        simp only at ih ⊢
        by_cases h : i = j
        · subst h
          rw [if_neg (by simp)]
          by_cases hc : c < b.length
          · simp [hc]
          · rw [if_neg (by simp; omega), ih, if_neg (by omega), if_neg (by simp; omega)]
        · rw [if_neg (by simp), if_neg (by simp; omega), ih]
          by_cases h2 : (i + 1 ≤ j ∧ j < i + 1 + bs.length) ∧ c < (bs.getD (j - (i + 1)) []).length
          · rw [if_pos h2, if_pos ⟨⟨by omega, by simp; omega⟩, by rw [show j - i = (j - (i + 1)) + 1 by omega]; exact h2.2⟩, show j - i = (j - (i + 1)) + 1 by omega]; rfl
          · rw [if_neg h2, if_neg]
            rintro ⟨⟨h3, h4⟩, h5⟩
            simp only [List.length_cons] at h4
            rw [show j - i = (j - (i + 1)) + 1 by omega] at h5
            exact h2 ⟨⟨by omega, by omega⟩, h5⟩
      | g j => rw [if_neg (by simp)]; simpa using ih
      | l j => rw [if_neg (by simp)]; simpa using ih
    | _ => rw [if_neg (by simp)]; simpa using ih
theorem addPtrs_inv : ∀ (l : List (Root × Nat)) (rs0 : List Root), rs0.Nodup → (addPtrs rs0 l).Nodup ∧ (∃ t, addPtrs rs0 l = rs0 ++ t) ∧ ∀ r ∈ addPtrs rs0 l, r ∈ rs0 ∨ ∃ g, (r, g) ∈ l
  | [], rs0, h => ⟨h, ⟨[], by simp [addPtrs]⟩, fun r hr => .inl hr⟩
  | (x, g) :: t, rs0, h => by
    simp only [addPtrs]
    split
    · obtain ⟨h1, h2, h3⟩ := addPtrs_inv t rs0 h
      exact ⟨h1, h2, fun r hr => (h3 r hr).imp id (fun ⟨g', hg⟩ => ⟨g', by simp [hg]⟩)⟩
    · rename_i hx
      have hn : (rs0 ++ [x]).Nodup := by
        rw [List.nodup_append]
        refine ⟨h, by simp, fun a ha b hb => ?_⟩
        simp only [List.mem_singleton] at hb
        subst hb
        rintro rfl
        exact hx (by simpa using ha)
      obtain ⟨h1, ⟨u, h2⟩, h3⟩ := addPtrs_inv t (rs0 ++ [x]) hn
      refine ⟨h1, ⟨x :: u, by rw [h2]; simp⟩, fun r hr => ?_⟩
      rcases h3 r hr with h4 | ⟨g', h4⟩
      · rcases List.mem_append.1 h4 with h5 | h5
        · exact .inl h5
        · simp only [List.mem_singleton] at h5; subst h5; exact .inr ⟨g, by simp⟩
      · exact .inr ⟨g', by simp [h4]⟩
def LiveR (S0 : St) (ws : List Wr) (r : Root) : Prop := getWr ws (.r r) = none ∧ r.isG = false
def LiveP (S0 : St) (ws : List Wr) (x : Root × Nat) : Prop := x.2 = S0.γ (.r x.1) ∧ LiveR S0 ws x.1
theorem liveAll_inv : ∀ (l : List (Root × Nat)) {u : Unit}, (liveAll ws l).run S0 = some u → ∀ x ∈ l, LiveP S0 ws x
  | [], u, h, x, hx => by simp at hx
  | (r, g) :: t, u, h, x, hx => by
    simp only [liveAll] at h
    have h1 := Q.run_at_some h
    obtain ⟨h2, h3⟩ := Q.run_guard_some h1
    simp only [Bool.and_eq_true, beq_iff_eq, Bool.not_eq_true', Option.isNone_iff_eq_none] at h2
    rcases List.mem_cons.1 hx with rfl | hx
    · exact ⟨h2.1.1.symm, h2.1.2, h2.2⟩
    · exact liveAll_inv t h3 x hx
theorem rawCells_inv {r : Root} : ∀ (n c : Nat) {cs : List C}, (rawCells ws r c n).run S0 = some cs → cs.length = n ∧ ∀ j x, cs[j]? = some x → (S0.wrs ws).E (.b r (c + j)) = .one x
  | 0, c, cs, h => by
    simp only [rawCells, Q.run_pure, Option.some.injEq] at h
    subst h
    exact ⟨rfl, fun j x hj => by simp at hj⟩
  | n + 1, c, cs, h => by
    simp only [rawCells] at h
    rw [Q.run_bind, atP_run, Option.bind_some] at h
    split at h
    · rename_i x hx
      obtain ⟨t, h1, h2⟩ := Q.run_bind_some h
      obtain rfl := Q.run_pure_some h2
      obtain ⟨g1, g2⟩ := rawCells_inv n (c + 1) h1
      refine ⟨by simp [g1], fun j y hj => ?_⟩
      cases j with
      | zero => simp at hj; subst hj; exact hx
      | succ j =>
        have := g2 j y (by simpa using hj)
        rwa [show c + 1 + j = c + (j + 1) by omega] at this
    · cases h
theorem gather_inv : ∀ (fuel : Nat) (rs0 : List Root) (i : Nat) {rs : List Root} {bs : List (List C)}, rs0.Nodup → (gather ws fuel rs0 i).run S0 = some (rs, bs) → rs.Nodup ∧ (∃ t, rs = rs0 ++ t) ∧ (∀ r ∈ rs, r ∈ rs0 ∨ LiveR S0 ws r) ∧ bs.length = rs.length - i ∧
    ∀ (k : Nat) r cs, rs[i + k]? = some r → bs[k]? = some cs → cs.length = boxN (S0.E (.r r)) ∧ (∀ j x, cs[j]? = some x → (S0.wrs ws).E (.b r j) = .one x) ∧ ∀ x ∈ ptrsL cs, LiveP S0 ws x
  | 0, rs0, i, rs, bs, hn, h => by
    simp only [gather, Q.run_ite] at h
    split at h
    · rename_i hle
      obtain ⟨rfl, rfl⟩ : rs = rs0 ∧ bs = [] := by simpa [eq_comm] using h
      exact ⟨hn, ⟨[], by simp⟩, fun r hr => .inl hr, by simp; omega, fun k r cs hk hc => by simp at hc⟩
    · cases h
  | f + 1, rs0, i, rs, bs, hn, h => by
    simp only [gather] at h
    split at h
    · rename_i hnone
      obtain ⟨rfl, rfl⟩ : rs = rs0 ∧ bs = [] := by simpa [eq_comm] using h
      have := List.getElem?_eq_none_iff.1 hnone
      exact ⟨hn, ⟨[], by simp⟩, fun r hr => .inl hr, by simp; omega, fun k r cs hk hc => by simp at hc⟩
    · rename_i r0 hr0
      have h1 := Q.run_at_some h
      obtain ⟨cs0, h2, h3⟩ := Q.run_bind_some h1
      obtain ⟨u, h4, h5⟩ := Q.run_bind_some h3
      obtain ⟨⟨rs', bs'⟩, h6, h7⟩ := Q.run_bind_some h5
      obtain ⟨rfl, rfl⟩ : rs = rs' ∧ bs = cs0 :: bs' := by simpa [eq_comm] using Q.run_pure_some h7
      obtain ⟨a1, ⟨t1, a2⟩, a3⟩ := addPtrs_inv (ptrsL cs0) rs0 hn
      obtain ⟨b1, ⟨t2, b2⟩, b3, b4, b5⟩ := gather_inv f _ (i + 1) a1 h6
      obtain ⟨c1, c2⟩ := rawCells_inv _ _ h2
      have hlv := liveAll_inv _ h4
      have hi : i < rs0.length := (List.getElem?_eq_some_iff.1 hr0).1
      have hlen : rs.length ≥ rs0.length := by rw [b2, a2]; simp
      refine ⟨b1, ⟨t1 ++ t2, by rw [b2, a2]; simp⟩, fun r hr => ?_, by simp [b4]; omega, ?_⟩
      · rcases b3 r hr with h | h
        · rcases a3 r h with h | ⟨g, h⟩
          · exact .inl h
          · exact .inr (hlv _ h).2
        · exact .inr h
      · intro k r cs hk hc
        cases k with
        | zero =>
          simp only [List.getElem?_cons_zero, Option.some.injEq] at hc
          subst hc
          have : r = r0 := by
            rw [b2, a2, Nat.add_zero, List.append_assoc, List.getElem?_append_left hi, hr0] at hk
            simpa using hk.symm
          subst this
          refine ⟨c1, fun j x hj => ?_, hlv⟩
          have := c2 j x hj
          rwa [Nat.zero_add] at this
        | succ k =>
          exact b5 k r cs (by rw [show i + 1 + k = i + (k + 1) by omega]; exact hk) (by simpa using hc)
end
end
section
section
variable {nm : FuncId → Option Nat} {N : Nat} {S S0 : St} {a : Act} {w w0 w' : World} {L L0 : LabF} {P : Program} {o : Oper} {Cl : Oracle} {d : Nat} {ws : List Wr} {γ : Key → Nat} {rs : List Root} {E : Key → V}
theorem getD_some {α : Type} {l : List α} {i : Nat} {d : α} (h : i < l.length) : l[i]? = some (l.getD i d) := by
  rw [List.getElem?_eq_getElem h, List.getD_eq_getElem?_getD, List.getElem?_eq_getElem h]; rfl
theorem inVs_get : ∀ {l l' : List V} (j : Nat) {c' : V}, inVs rs l = some l' → l'[j]? = some c' → ∃ c, l[j]? = some c ∧ c.inV rs = some c'
  | [], l', j, c', h, hj => by simp only [inVs, Option.some.injEq] at h; subst h; simp at hj
  | c :: t, l', j, c', h, hj => by
    simp only [inVs] at h
    obtain ⟨c1, h1, h2⟩ := Option.bind_eq_some_iff.1 h
    obtain ⟨t1, h3, rfl⟩ := map_some' h2
    cases j with
    | zero => simp at hj; subst hj; exact ⟨c, rfl, h1⟩
    | succ j => obtain ⟨c2, g1, g2⟩ := inVs_get j h3 (by simpa using hj); exact ⟨c2, by simpa using g1, g2⟩
theorem inVs_length : ∀ {l l' : List V}, inVs rs l = some l' → l'.length = l.length
  | [], l', h => by simp only [inVs, Option.some.injEq] at h; subst h; rfl
  | c :: t, l', h => by
    simp only [inVs] at h
    obtain ⟨c1, h1, h2⟩ := Option.bind_eq_some_iff.1 h
    obtain ⟨t1, h3, rfl⟩ := map_some' h2
    simp [inVs_length h3]
theorem inBs_get : ∀ {l l' : List (List C)} (j : Nat) {c' : List C}, inBs rs l = some l' → l'[j]? = some c' → ∃ c, l[j]? = some c ∧ inL rs c = some c'
  | [], l', j, c', h, hj => by simp only [inBs, Option.some.injEq] at h; subst h; simp at hj
  | c :: t, l', j, c', h, hj => by
    simp only [inBs] at h
    obtain ⟨c1, h1, h2⟩ := Option.bind_eq_some_iff.1 h
    obtain ⟨t1, h3, rfl⟩ := map_some' h2
    cases j with
    | zero => simp at hj; subst hj; exact ⟨c, rfl, h1⟩
    | succ j => obtain ⟨c2, g1, g2⟩ := inBs_get j h3 (by simpa using hj); exact ⟨c2, by simpa using g1, g2⟩
theorem inBs_length : ∀ {l l' : List (List C)}, inBs rs l = some l' → l'.length = l.length
  | [], l', h => by simp only [inBs, Option.some.injEq] at h; subst h; rfl
  | c :: t, l', h => by
    simp only [inBs] at h
    obtain ⟨c1, h1, h2⟩ := Option.bind_eq_some_iff.1 h
    obtain ⟨t1, h3, rfl⟩ := map_some' h2
    simp [inBs_length h3]
theorem vPtrs_mem : ∀ {l : List V} {j : Nat} {v : V} {x : Root × Nat}, l[j]? = some v → x ∈ ptrsL v.cells → x ∈ vPtrs l
  | [], _, _, _, h, _ => by simp at h
  | y :: t, 0, c, x, h, hx => by simp at h; subst h; simp [vPtrs, hx]
  | y :: t, j + 1, c, x, h, hx => by simp only [vPtrs, List.mem_append]; exact .inr (vPtrs_mem (by simpa using h) hx)
theorem RepV.enter {k : Key} {x : V} {v : Value} (h : RepV nm w L γ k x v) {x' : V} (hi : x.inV rs = some x') (hl : ∀ y ∈ ptrsL x.cells, y.2 = γ (.r y.1)) (hc : x.clean = true) (k' : Key) : RepV nm w (enterL rs E L) (fun _ => 0) k' x' v := by
  cases h with
  | @one c v h =>
    simp only [V.inV] at hi
    obtain ⟨c', h1, rfl⟩ := map_some' hi
    exact .one (h.enter h1 (fun y hy => hl y (by simp [V.cells, ptrsL, hy])) hc _ _)
  | @agg cs vs hlen h =>
    simp only [V.inV] at hi
    obtain ⟨cs', h1, rfl⟩ := map_some' hi
    refine .agg (by rw [inL_length h1]; exact hlen) (fun j c u hj hu => ?_)
    obtain ⟨c0, g1, g2⟩ := inL_get j h1 hj
    exact (h j c0 u g1 hu).enter g2 (fun y hy => hl y (ptrsL_mem g1 hy)) (cleanL_get hc g1) _ _
  | tup => simp [V.inV] at hi
theorem entry_γ (vs : List V) (bs : List (List C)) : (argEnts 0 vs ++ boxesEnts 0 bs : St).γ = fun _ => 0 := by
  funext k
  unfold St.γ
  rw [argEnts_get]
  cases k with
  | s j => simp only; split; rfl; rw [boxesEnts_get]
  | r x => simp only; rw [boxesEnts_get]; cases x <;> simp only <;> (try split) <;> rfl
  | b x c => simp only; rw [boxesEnts_get]; cases x <;> simp only <;> (try split) <;> rfl
  | h i => simp only; rw [boxesEnts_get]
  | a k => simp only; rw [boxesEnts_get]
theorem boxes_γ (bs : List (List C)) : (boxesEnts 0 bs : St).γ = fun _ => 0 := by
  have := entry_γ [] bs
  simpa [argEnts] using this
theorem boxes_E (bs : List (List C)) (k : Key) : (boxesEnts 0 bs : St).E k = match k with
    | .r (.e j) => if j < bs.length then sizeV (bs.getD j []).length else V.dead
    | .b (.e j) c => if j < bs.length ∧ c < (bs.getD j []).length then .one ((bs.getD j []).getD c .dead) else V.dead
    | _ => V.dead := by
  unfold St.E
  rw [boxesEnts_get]
  cases k with
  | r x => cases x <;> simp only <;> (try (simp only [Nat.zero_le, true_and, Nat.zero_add, Nat.sub_zero]; split <;> rfl)) <;> rfl
  | b x c => cases x <;> simp only <;> (try (simp only [Nat.zero_le, true_and, Nat.zero_add, Nat.sub_zero]; split <;> rfl)) <;> rfl
  | _ => rfl
theorem enter_rel (M : Mid nm N S0 w0 L0 ws a w L) {vs vs' : List V} {bs bs' : List (List C)} (hlv : ∀ x ∈ vPtrs vs, LiveP S0 ws x) (hg : (gather ws 40 (addPtrs [] (vPtrs vs)) 0).run S0 = some (rs, bs)) (hvs : inVs rs vs = some vs') (hbs : inBs rs bs = some bs')
    {args : Array Value} (hsz : args.size = vs.length) (hcl : cleanVs vs = true) (hrep : ∀ (j : Nat) x u, vs[j]? = some x → args[j]? = some u → RepV nm w L (S0.wrs ws).γ (.h 0) x u) :
    Rel nm vs'.length (argEnts 0 vs' ++ boxesEnts 0 bs') ⟨args, []⟩ w (enterL rs (S0.wrs ws).E L) ∧ NoH (enterL rs (S0.wrs ws).E L) ∧ rs.Nodup ∧ (∀ r ∈ rs, LiveR S0 ws r) ∧ bs.length = rs.length ∧ bs'.length = rs.length ∧
      (∀ (k : Nat) r cs, rs[k]? = some r → bs[k]? = some cs → cs.length = boxN (S0.E (.r r)) ∧ (∀ j x, cs[j]? = some x → (S0.wrs ws).E (.b r j) = .one x)) := by
  obtain ⟨a1, ⟨t1, a2⟩, a3⟩ := addPtrs_inv (vPtrs vs) [] List.nodup_nil
  obtain ⟨b1, ⟨t2, b2⟩, b3, b4, b5⟩ := gather_inv 40 _ 0 a1 hg
  have hlive : ∀ r ∈ rs, LiveR S0 ws r := by
    intro r hr
    rcases b3 r hr with h | h
    · rcases a3 r h with h | ⟨g, h⟩
      · simp at h
      · exact (hlv _ h).2
    · exact h
  have hbl : bs.length = rs.length := by rw [b4]; omega
  have hbl' : bs'.length = rs.length := by rw [inBs_length hbs, hbl]
  have hb5 : ∀ (k : Nat) r cs, rs[k]? = some r → bs[k]? = some cs → cs.length = boxN (S0.E (.r r)) ∧ (∀ j x, cs[j]? = some x → (S0.wrs ws).E (.b r j) = .one x) ∧ ∀ x ∈ ptrsL cs, LiveP S0 ws x :=
    fun k r cs h1 h2 => b5 k r cs (by rw [Nat.zero_add]; exact h1) h2
  have hγ : ∀ {x : Root × Nat}, LiveP S0 ws x → x.2 = (S0.wrs ws).γ (.r x.1) := fun h => by rw [γ_wrs_none h.2.1]; exact h.1
  have box : ∀ j, j < bs'.length → ∃ r cs, rs[j]? = some r ∧ bs[j]? = some cs ∧ inL rs cs = some (bs'.getD j []) ∧ (bs'.getD j []).length = boxN ((S0.wrs ws).E (.r r)) ∧ r.isG = false ∧ rootIdx rs r 0 = some j ∧
      (∀ i x, cs[i]? = some x → (S0.wrs ws).E (.b r i) = .one x) ∧ ∀ x ∈ ptrsL cs, LiveP S0 ws x := by
    intro j hj
    have hget : bs'[j]? = some (bs'.getD j []) := by simp [List.getD_eq_getElem?_getD, hj]
    obtain ⟨cs, h1, h2⟩ := inBs_get j hbs hget
    have hjr : j < rs.length := by omega
    obtain ⟨c1, c2, c3⟩ := hb5 j rs[j] cs (by simp) h1
    have hl := hlive rs[j] (List.getElem_mem hjr)
    refine ⟨rs[j], cs, by simp, h1, h2, ?_, hl.2, ?_, c2, c3⟩
    · rw [inL_length h2, c1, getWr_E, hl.1]; rfl
    · have := rootIdx_of rs (i := 0) b1 (show rs[j]? = some rs[j] by simp)
      rwa [Nat.zero_add] at this
  refine ⟨⟨?_, rfl, ?_, ?_, ?_, ?_, ?_, ?_, ?_, ?_⟩, ?_, b1, hlive, hbl, hbl', fun k r cs h1 h2 => ⟨(hb5 k r cs h1 h2).1, (hb5 k r cs h1 h2).2.1⟩⟩
  · rw [hsz, inVs_length hvs]
  · intro i
    rw [entry_γ]
    show RepV nm w _ _ (.s i) ((argEnts 0 vs' ++ boxesEnts 0 bs' : St).E (.s i)) (args.getD i undef)
    have hE : (argEnts 0 vs' ++ boxesEnts 0 bs' : St).E (.s i) = if i < vs'.length then vs'.getD i V.dead else V.dead := by
      unfold St.E
      rw [argEnts_get]
      simp only [Nat.zero_le, true_and, Nat.zero_add, Nat.sub_zero]
      split
      · rfl
      · rw [boxesEnts_get]; rfl
    rw [hE]
    split
    · rename_i hi
      obtain ⟨x, h1, h2⟩ := inVs_get i hvs (show vs'[i]? = some (vs'.getD i V.dead) by simp [List.getD_eq_getElem?_getD, hi])
      have hia : i < args.size := by rw [hsz, ← inVs_length hvs]; exact hi
      have := (hrep i x args[i] h1 (by simp [hia])).enter (E := (S0.wrs ws).E) h2 (fun y hy => hγ (hlv y (vPtrs_mem h1 hy))) (cleanVs_get hcl h1) (.s i)
      simpa [Array.getD, hia] using this
    · exact .one .dead
  · intro r c x hx hxd
    have hx' : (boxesEnts 0 bs' : St).E (.b r c) = .one x := by
      have := hx
      unfold St.E at this ⊢
      rw [argEnts_get] at this
      exact this
    rw [entry_γ]
    rw [boxes_E] at hx'
    cases r with
    | g i => simp only [V.dead, V.one.injEq] at hx'; exact absurd hx'.symm hxd
    | l i => simp only [V.dead, V.one.injEq] at hx'; exact absurd hx'.symm hxd
    | e j =>
      simp only at hx'
      split at hx'
      · rename_i hjc
        obtain ⟨r0, cs, h1, h2, h3, h4, h5, h6, h7, h8⟩ := box j hjc.1
        simp only [V.one.injEq] at hx'
        obtain ⟨y, k1, k2⟩ := inL_get c h3 (show (bs'.getD j [])[c]? = some x by rw [← hx']; exact getD_some hjc.2)
        have hyE := h7 c y k1
        have hyd : y ≠ .dead := by
          rintro rfl
          simp only [C.inC, Option.some.injEq] at k2
          exact hxd k2.symm
        have hat := M.rel.cell r0 c y hyE hyd
        have ex : ∃ B o cur e fz v, L B = some (.box r0 o) ∧ w.heap[B]? = some (.cells cur e fz) ∧ unfroz cur.size fz ∧ cur[o + c]? = some v ∧ RepC nm w L (S0.wrs ws).γ (.b r0 c) 0 y v ∧ BldOk y B o c e cur.size v := by
          cases r0 with
          | g i => simp [Root.isG] at h5
          | e i => exact hat
          | l i => exact hat
        obtain ⟨B, o, cur, e, fz, v, m1, m2, m3, m4, m5, m6⟩ := ex
        exact ⟨B, o, cur, e, fz, v, enterL_box m1 h6, m2, m3, m4, m5.enterBox k2 (fun z hz => hγ (h8 z (ptrsL_mem k1 hz))) hyE h6, inC_bld k2 m6⟩
      · simp only [V.dead, V.one.injEq] at hx'; exact absurd hx'.symm hxd
  · intro r c
    have : (argEnts 0 vs' ++ boxesEnts 0 bs' : St).E (.b r c) = (boxesEnts 0 bs' : St).E (.b r c) := by unfold St.E; rw [argEnts_get]
    rw [this, boxes_E]
    cases r with
    | e j =>
      simp only
      split
      · exact ⟨(bs'.getD j []).getD c .dead, rfl⟩
      · exact ⟨.dead, rfl⟩
    | g i => exact ⟨.dead, rfl⟩
    | l i => exact ⟨.dead, rfl⟩
  · intro r c hc
    have h1 : (argEnts 0 vs' ++ boxesEnts 0 bs' : St).E (.b r c) = (boxesEnts 0 bs' : St).E (.b r c) := by unfold St.E; rw [argEnts_get]
    have h2 : (argEnts 0 vs' ++ boxesEnts 0 bs' : St).E (.r r) = (boxesEnts 0 bs' : St).E (.r r) := by unfold St.E; rw [argEnts_get]
    rw [h2] at hc
    rw [h1]
    rw [boxes_E] at hc ⊢
    cases r with
    | e j =>
      simp only at hc ⊢
      by_cases hj : j < bs'.length
      · rw [if_pos hj, boxN_sizeV] at hc
        rw [if_neg (fun h => by omega)]; rfl
      · rw [if_neg (fun h => hj h.1)]; rfl
    | g i => rfl
    | l i => rfl
  · intro r hg hr
    have h2 : (argEnts 0 vs' ++ boxesEnts 0 bs' : St).E (.r r) = (boxesEnts 0 bs' : St).E (.r r) := by unfold St.E; rw [argEnts_get]
    rw [h2] at hr ⊢
    rw [boxes_E] at hr ⊢
    cases r with
    | e j =>
      simp only at hr ⊢
      by_cases hj : j < bs'.length
      · rw [if_pos hj, boxN_sizeV] at hr ⊢
        obtain ⟨r0, cs, h1, h2, h3, h4, h5, h6, h7, h8⟩ := box j hj
        rw [h4] at hr ⊢
        obtain ⟨B, o, cur, e, fz, m1, m2, m3, m4⟩ := M.rel.room r0 h5 hr
        exact ⟨B, o, cur, e, fz, enterL_box m1 h6, m2, m3, m4⟩
      · rw [if_neg hj] at hr; simp [V.dead, boxN] at hr
    | g i => simp [Root.isG] at hg
    | l i => simp [V.dead, boxN] at hr
  · intro B l hB
    rcases enterL_back hB with ⟨_, h⟩ | ⟨_, _, _, _, h, _⟩ | ⟨_, _, _, _, _, _, _, _, h, _⟩ <;> exact M.rel.dom B _ h
  · intro B B' pl o o' h1 h2
    rcases enterL_back h1 with ⟨h, _⟩ | ⟨_, _, _, h, _⟩ | ⟨r, c, j, p, o1, i, x, h, k1, k2, _⟩
    · cases h
    · cases h
    rcases enterL_back h2 with ⟨h', _⟩ | ⟨_, _, _, h', _⟩ | ⟨r', c', j', p', o1', i', x', h', k1', k2', _⟩
    · cases h'
    · cases h'
    simp only [Lab.row.injEq] at h h'
    obtain ⟨rfl, rfl⟩ := h
    obtain ⟨h', rfl⟩ := h'
    simp only [Place.mk.injEq, Key.b.injEq, Root.e.injEq] at h'
    obtain ⟨⟨rfl, rfl⟩, rfl, rfl⟩ := h'
    have e1 := (rootIdx_inv rs k2).2
    have e2 := (rootIdx_inv rs k2').2
    rw [e1] at e2
    simp only [Option.some.injEq] at e2
    subst e2
    exact M.rel.rowInj B B' _ _ _ k1 k1'
  · intro B B' r o o' h1 h2
    rcases enterL_back h1 with ⟨h, _⟩ | ⟨r1, o1, i, h, k1, k2⟩ | ⟨_, _, _, _, _, _, _, h, _⟩
    · cases h
    · rcases enterL_back h2 with ⟨h', _⟩ | ⟨r1', o1', i', h', k1', k2'⟩ | ⟨_, _, _, _, _, _, _, h', _⟩
      · cases h'
      · simp only [Lab.box.injEq] at h h'
        obtain ⟨rfl, rfl⟩ := h
        obtain ⟨h', rfl⟩ := h'
        simp only [Root.e.injEq] at h'
        subst h'
        have e1 := (rootIdx_inv rs k2).2
        have e2 := (rootIdx_inv rs k2').2
        rw [e1] at e2
        simp only [Option.some.injEq] at e2
        subst e2
        exact M.rel.boxInj B B' _ _ _ k1 k1'
      · cases h'
    · cases h
  · intro B q o hB
    rcases enterL_back hB with ⟨h, _⟩ | ⟨_, _, _, h, _⟩ | ⟨_, _, _, _, _, _, _, h, _⟩
    · cases h
    · cases h
    · simp only [Lab.row.injEq] at h
      rw [h.1]; rfl
end
end
end Go.Abs
