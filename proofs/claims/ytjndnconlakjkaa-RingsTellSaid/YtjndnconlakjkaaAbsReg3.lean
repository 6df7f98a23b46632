/- What is forgotten between regions; regions as a whole. -/
import Derived.Test.YtjndnconlakjkaaAbsReg2
set_option linter.unusedVariables false
set_option linter.unusedSimpArgs false
namespace Go.Abs
section
variable {nm : FuncId → Option Nat} {N : Nat} {S : St} {a : Act} {w : World} {L : LabF} {P : Program} {o : Oper} {Cl : Oracle} {hh : Hint} {ops : Array Oper}

mutual
/-- The counts that a cell hangs on. -/
def C.hangs : C → List Key
  | .view pl .. => [pl.k]
  | .eptr pl .. => [pl.k]
  | .appd pl .. => [pl.k, .a pl.k]
  | .ptr r _ _ => [.r r]
  | .fn _ a b => hangsL a ++ hangsL b
  | _ => []
def hangsL : List C → List Key
  | [] => []
  | c :: t => c.hangs ++ hangsL t
end
mutual
def V.hangs : V → List Key
  | .one c => c.hangs
  | .agg cs => hangsL cs
  | .tup vs => hangsVs vs
def hangsVs : List V → List Key
  | [] => []
  | v :: t => v.hangs ++ hangsVs t
end

theorem hangsL_mem : ∀ {l : List C} {i : Nat} {c : C} {k : Key}, l[i]? = some c → k ∈ c.hangs → k ∈ hangsL l
  | [], _, _, _, h, _ => by simp at h
  | x :: t, 0, c, k, h, hk => by simp at h; subst h; simp [hangsL, hk]
  | x :: t, i + 1, c, k, h, hk => by simp only [hangsL, List.mem_append]; exact .inr (hangsL_mem (by simpa using h) hk)
theorem hangsVs_mem : ∀ {l : List V} {i : Nat} {c : V} {k : Key}, l[i]? = some c → k ∈ c.hangs → k ∈ hangsVs l
  | [], _, _, _, h, _ => by simp at h
  | x :: t, 0, c, k, h, hk => by simp at h; subst h; simp [hangsVs, hk]
  | x :: t, i + 1, c, k, h, hk => by simp only [hangsVs, List.mem_append]; exact .inr (hangsVs_mem (by simpa using h) hk)

theorem RepC.cnt {γ γ' : Key → Nat} {k : Key} {j : Nat} {c : C} {v : Value} (h : RepC nm w L γ k j c v) : (∀ x ∈ c.hangs, γ' x = γ x) → RepC nm w L γ' k j c v := by
  induction h with
  | d h => exact fun _ => .d h
  | @ptr r g c v hv hg h => intro hx; have := hx (.r r) (by simp [C.hangs]); exact .ptr hv (by rw [this]; exact hg) (fun e => h (by rw [e, this]))
  | @eptr pl g sz i c v hv hh hg h => intro hx; have := hx pl.k (by simp [C.hangs]); exact .eptr hv hh (by rw [this]; exact hg) (fun e => h (by rw [e, this]))
  | pp hL hB h => exact fun _ => .pp hL hB h
  | @view pl g sz off len v hv hh hg h => intro hx; have := hx pl.k (by simp [C.hangs]); exact .view hv hh (by rw [this]; exact hg) (fun e => h (by rw [e, this]))
  | @appd pl g a sz rows v hv hh hg ha h =>
    intro hx
    have h1 := hx pl.k (by simp [C.hangs])
    have h2 := hx (.a pl.k) (by simp [C.hangs])
    exact .appd hv hh (by rw [h1]; exact hg) (by rw [h2]; exact ha) (fun e e' => h (by rw [e, h1]) (by rw [e', h2]))
  | fn hf h1 h2 hcl h3 h4 ih3 ih4 =>
    intro hx
    exact .fn hf h1 h2 hcl (fun i x u hi hu => ih3 i x u hi hu (fun y hy => hx y (by simp only [C.hangs, List.mem_append]; exact .inl (hangsL_mem hi hy))))
      (fun i x u hi hu => ih4 i x u hi hu (fun y hy => hx y (by simp only [C.hangs, List.mem_append]; exact .inr (hangsL_mem hi hy))))
  | nilp => exact fun _ => .nilp
  | nilf => exact fun _ => .nilf
  | nili => exact fun _ => .nili
  | ifc => exact fun _ => .ifc
  | dead => exact fun _ => .dead

theorem RepV.cnt {γ γ' : Key → Nat} {k : Key} {x : V} {v : Value} (h : RepV nm w L γ k x v) : (∀ y ∈ x.hangs, γ' y = γ y) → RepV nm w L γ' k x v := by
  induction h with
  | one h => exact fun hx => .one (h.cnt hx)
  | agg hl h => exact fun hx => .agg hl (fun j c u h1 h2 => (h j c u h1 h2).cnt (fun y hy => hx y (hangsL_mem h1 hy)))
  | tup hl hcl h ih => exact fun hx => .tup hl hcl (fun i x u h1 h2 => ih i x u h1 h2 (fun y hy => hx y (hangsVs_mem h1 hy)))

/-- The relation, of another state, whose entries are those of this one, forgotten, or loosened; the counts that they hang on stay. -/
theorem Rel.forget {S S' : St} (R : Rel nm N S a w L)
    (hE : ∀ k, (S'.E k = S.E k ∨ S'.E k = (S.E k).loosen) ∨ (S'.E k = V.dead)) (hr : ∀ r, boxN (S'.E (.r r)) ≠ 0 → S'.E (.r r) = S.E (.r r))
    (hb : ∀ r c, S'.E (.b r c) ≠ V.dead → boxN (S'.E (.r r)) = boxN (S.E (.r r)))
    (hγ : ∀ k y, k.isPl = true → S'.E k ≠ V.dead → y ∈ (S.E k).hangs → S'.γ y = S.γ y) : Rel nm N S' a w L := by
  have loose : ∀ {k : Key} {x : V} {v : Value}, RepV nm w L S.γ k x v → RepV nm w L S.γ k x.loosen v := by
    intro k x v h
    cases x with
    | one c =>
      cases c with
      | d y =>
        cases y with
        | sl t sz rows =>
          cases t with
          | _ => exact h
        | _ => exact h
      | _ => exact h
    | _ => exact h
  have hangl : ∀ x : V, ∀ y ∈ x.loosen.hangs, y ∈ x.hangs := by
    intro x y hy
    cases x with
    | one c =>
      cases c with
      | d z => cases z with
        | sl t sz rows => cases t <;> exact hy
        | _ => exact hy
      | _ => exact hy
    | _ => exact hy
  have slot : ∀ k v, k.isPl = true → RepV nm w L S.γ k (S.E k) v → RepV nm w L S'.γ k (S'.E k) v := by
    intro k v hk h
    by_cases hd : S'.E k = V.dead
    · rw [hd]; exact .one .dead
    · rcases hE k with (h1 | h1) | h1
      · rw [h1]; exact h.cnt (fun y hy => hγ k y hk hd hy)
      · rw [h1]; exact (loose h).cnt (fun y hy => hγ k y hk hd (hangl _ y hy))
      · exact absurd h1 hd
  refine ⟨R.size, R.defers, fun i => slot (.s i) _ rfl (R.slot i), ?_, ?_, ?_, ?_, R.dom, R.rowInj, R.boxInj⟩
  · intro r c x hx hxd
    have hnd : S'.E (.b r c) ≠ V.dead := by rw [hx]; intro e; exact hxd (by simpa [V.dead] using e)
    obtain ⟨x0, hx0⟩ := R.bone r c
    have hx0d : x0 ≠ .dead := by
      rintro rfl
      apply hnd
      rcases hE (.b r c) with (h1 | h1) | h1
      · rw [h1, hx0]; rfl
      · rw [h1, hx0]; rfl
      · exact h1
    have hat := R.cell r c x0 hx0 hx0d
    have tr : ∀ v, RepC nm w L S.γ (.b r c) 0 x0 v → RepC nm w L S'.γ (.b r c) 0 x v := by
      intro v hv
      have := slot (.b r c) v rfl (by rw [hx0]; exact .one hv)
      rw [hx] at this
      exact this.one_inv
    have ex : (∃ B o cur e fz v, L B = some (.box r o) ∧ w.heap[B]? = some (.cells cur e fz) ∧ unfroz cur.size fz ∧ cur[o + c]? = some v ∧ RepC nm w L S.γ (.b r c) 0 x0 v) →
        ∃ B o cur e fz v, L B = some (.box r o) ∧ w.heap[B]? = some (.cells cur e fz) ∧ unfroz cur.size fz ∧ cur[o + c]? = some v ∧ RepC nm w L S'.γ (.b r c) 0 x v :=
      fun ⟨B, o, cur, e, fz, v, h1, h2, h3, h4, h5⟩ => ⟨B, o, cur, e, fz, v, h1, h2, h3, h4, tr v h5⟩
    cases r with
    | g i => obtain ⟨v, hv⟩ := hat; exact ⟨v, tr v hv⟩
    | e i => exact ex hat
    | l i => exact ex hat
  · intro r c
    obtain ⟨x0, hx0⟩ := R.bone r c
    rcases hE (.b r c) with (h1 | h1) | h1
    · exact ⟨x0, by rw [h1, hx0]⟩
    · exact ⟨x0.loosen, by rw [h1, hx0]; rfl⟩
    · exact ⟨.dead, h1⟩
  · intro r c hc
    by_cases hd : S'.E (.b r c) = V.dead
    · exact hd
    · rw [hb r c hd] at hc
      have := R.bound r c hc
      rcases hE (.b r c) with (h1 | h1) | h1
      · rw [h1]; exact this
      · rw [h1, this]; rfl
      · exact h1
  · intro r hg hrr
    have := hr r (by omega)
    rw [this] at hrr ⊢
    exact R.room r hg hrr

theorem get_mem : ∀ (S : St) (k : Key), S.get k = ⟨.one .dead, 0⟩ ∨ (k, S.get k) ∈ S
  | [], k => .inl rfl
  | (k', e) :: t, k => by
    simp only [St.get]
    by_cases h : k' = k
    · subst h; rw [if_pos rfl]; exact .inr (by simp)
    · rw [if_neg h]
      exact (get_mem t k).imp id (fun h => by simp [h])

theorem get_filter (p : Key → Bool) : ∀ (S : St) (k : Key), St.get (S.filter fun x => p x.1) k = if p k = true then S.get k else ⟨.one .dead, 0⟩
  | [], k => by simp [St.get]
  | (k', e) :: t, k => by
    have ih := get_filter p t k
    by_cases hp : p k' = true
    · rw [List.filter_cons, if_pos (by simpa using hp)]
      simp only [St.get]
      by_cases h : k' = k
      · subst h; simp [hp]
      · simp [h, ih]
    · rw [List.filter_cons, if_neg (by simpa using hp)]
      simp only [St.get]
      by_cases h : k' = k
      · subst h; rw [ih]; simp [hp]
      · simp [h, ih]

theorem get_reset (refs : List Key) : ∀ (S : St) (k : Key), (reset refs S).get k = { (S.get k) with g := resetG refs k (S.get k).g }
  | [], k => by
    simp only [reset, St.get, resetG]
    split
    · rfl
    · cases k <;> rfl
  | (k', e) :: t, k => by
    simp only [reset, St.get]
    by_cases h : k' = k
    · subst h; simp
    · simp only [h, if_false]; exact get_reset refs t k

theorem get_loosen : ∀ (S : St) (k : Key), (loosenAll S).get k = { (S.get k) with v := (S.get k).v.loosen }
  | [], k => rfl
  | (k', e) :: t, k => by
    simp only [loosenAll, St.get]
    by_cases h : k' = k
    · subst h; simp
    · simp only [h, if_false]; exact get_loosen t k

mutual
theorem C.hangs_refs : ∀ (c : C) (k : Key), k ∈ c.hangs → k ∈ c.refs ∨ ∃ r, k = .r r
  | .view pl _ _ _ _, k, h => .inl h
  | .eptr pl _ _ _ _, k, h => .inl h
  | .appd pl _ _ _ _, k, h => .inl h
  | .ptr r _ _, k, h => .inr ⟨r, by simpa [C.hangs] using h⟩
  | .fn _ a b, k, h => by
    simp only [C.hangs, List.mem_append] at h
    simp only [C.refs, List.mem_append]
    rcases h with h | h
    · exact (hangsL_refs a k h).imp .inl id
    · exact (hangsL_refs b k h).imp .inr id
  | .d _, k, h => by simp [C.hangs] at h
  | .pp _, k, h => by simp [C.hangs] at h
  | .nilp, k, h => by simp [C.hangs] at h
  | .nilf, k, h => by simp [C.hangs] at h
  | .nili, k, h => by simp [C.hangs] at h
  | .ifc, k, h => by simp [C.hangs] at h
  | .dead, k, h => by simp [C.hangs] at h
theorem hangsL_refs : ∀ (l : List C) (k : Key), k ∈ hangsL l → k ∈ refsL l ∨ ∃ r, k = .r r
  | [], k, h => by simp [hangsL] at h
  | c :: t, k, h => by
    simp only [hangsL, List.mem_append] at h
    simp only [refsL, List.mem_append]
    rcases h with h | h
    · exact (C.hangs_refs c k h).imp .inl id
    · exact (hangsL_refs t k h).imp .inr id
end
mutual
theorem V.hangs_refs : ∀ (x : V) (k : Key), k ∈ x.hangs → k ∈ x.refs ∨ ∃ r, k = .r r
  | .one c, k, h => C.hangs_refs c k h
  | .agg cs, k, h => hangsL_refs cs k h
  | .tup vs, k, h => hangsVs_refs vs k h
theorem hangsVs_refs : ∀ (l : List V) (k : Key), k ∈ hangsVs l → k ∈ refsVs l ∨ ∃ r, k = .r r
  | [], k, h => by simp [hangsVs] at h
  | c :: t, k, h => by
    simp only [hangsVs, List.mem_append] at h
    simp only [refsVs, List.mem_append]
    rcases h with h | h
    · exact (V.hangs_refs c k h).imp .inl id
    · exact (hangsVs_refs t k h).imp .inr id
end

theorem allRefs_mem : ∀ (S : St) {k : Key} {e : Ent}, (k, e) ∈ S → ∀ x ∈ e.v.refs, x ∈ allRefs S
  | [], k, e, h, x, hx => by simp at h
  | (k', e') :: t, k, e, h, x, hx => by
    simp only [allRefs, List.mem_append]
    rcases List.mem_cons.1 h with h | h
    · cases h; exact .inl hx
    · exact .inr (allRefs_mem t h x hx)

theorem norm0_sound {keep : List Nat} {S' : St} (R : Rel nm N S a w L) (h : S.norm0 keep = some S') : Rel nm N S' a w L := by
  unfold St.norm0 at h
  dsimp only at h
  split at h
  · rename_i hall
    simp only [Option.some.injEq] at h
    subst h
    have hg : ∀ k, (reset (allRefs (S.filter fun x => kept keep x.1)) (S.filter fun x => kept keep x.1)).E k = if kept keep k = true then S.E k else V.dead := by
      intro k
      unfold St.E
      rw [get_reset, get_filter]
      split <;> rfl
    have hkb : ∀ r c, kept keep (.b r c) = true := fun _ _ => rfl
    have hkr : ∀ r, kept keep (.r r) = true := fun _ => rfl
    refine R.forget ?_ ?_ ?_ ?_
    · intro k
      rw [hg]
      split
      · exact .inl (.inl rfl)
      · exact .inr rfl
    · intro r _
      rw [hg, if_pos (hkr r)]
    · intro r c _
      rw [hg, if_pos (hkr r)]
    · intro k y hk hd hy
      rw [hg] at hd
      split at hd
      · rename_i hkk
        have hγ : ∀ z, (z ∈ allRefs (S.filter fun x => kept keep x.1) ∨ ∃ r, z = .r r) → kept keep z = true → (reset (allRefs (S.filter fun x => kept keep x.1)) (S.filter fun x => kept keep x.1)).γ z = S.γ z := by
          intro z hz hkz
          unfold St.γ
          rw [get_reset, get_filter, if_pos hkz]
          simp only [resetG]
          rcases hz with hz | ⟨r, rfl⟩
          · rw [if_pos (by simpa using hz)]
          · split <;> rfl
        rcases V.hangs_refs _ _ hy with hr | ⟨r, rfl⟩
        · have hm : y ∈ allRefs (S.filter fun x => kept keep x.1) := by
            have h0 := get_filter (kept keep) S k
            rw [if_pos hkk] at h0
            rcases get_mem (List.filter (fun x => kept keep x.1) S) k with h1 | h1
            · rw [h0] at h1
              have : S.E k = .one .dead := by unfold St.E; rw [h1]
              rw [this] at hr
              simp [V.refs, C.refs] at hr
            · refine allRefs_mem _ h1 y ?_
              rw [h0]; exact hr
          exact hγ y (.inl hm) (List.all_eq_true.1 hall y hm)
        · exact hγ _ (.inr ⟨r, rfl⟩) (hkr r)
      · exact absurd rfl hd
  · cases h

theorem norm_sound {keep : List Nat} {S' : St} (R : Rel nm N S a w L) (h : S.norm keep = some S') : Rel nm N S' a w L := norm0_sound R h

mutual
theorem C.hangs_roots : ∀ (c : C) (k : Key), k ∈ c.hangs → (∀ r, k.root? = some r → r ∈ c.rootsC)
  | .view pl _ _ _ _, k, h, r, hr => by
    simp only [C.hangs, List.mem_singleton] at h
    subst h
    simp [C.rootsC, hr]
  | .eptr pl _ _ _ _, k, h, r, hr => by
    simp only [C.hangs, List.mem_singleton] at h
    subst h
    simp [C.rootsC, hr]
  | .appd pl _ _ _ _, k, h, r, hr => by
    simp only [C.hangs, List.mem_cons, List.not_mem_nil, or_false] at h
    rcases h with rfl | rfl
    · simp [C.rootsC, hr]
    · cases hr
  | .ptr r0 _ _, k, h, r, hr => by
    simp only [C.hangs, List.mem_singleton] at h
    subst h
    simp only [Key.root?, Option.some.injEq] at hr
    simp [C.rootsC, hr]
  | .fn _ a b, k, h, r, hr => by
    simp only [C.hangs, List.mem_append] at h
    simp only [C.rootsC, List.mem_append]
    rcases h with h | h
    · exact .inl (hangsL_roots a k h r hr)
    · exact .inr (hangsL_roots b k h r hr)
  | .d _, k, h, _, _ => by simp [C.hangs] at h
  | .pp _, k, h, _, _ => by simp [C.hangs] at h
  | .nilp, k, h, _, _ => by simp [C.hangs] at h
  | .nilf, k, h, _, _ => by simp [C.hangs] at h
  | .nili, k, h, _, _ => by simp [C.hangs] at h
  | .ifc, k, h, _, _ => by simp [C.hangs] at h
  | .dead, k, h, _, _ => by simp [C.hangs] at h
theorem hangsL_roots : ∀ (l : List C) (k : Key), k ∈ hangsL l → (∀ r, k.root? = some r → r ∈ rootsL l)
  | [], k, h, _, _ => by simp [hangsL] at h
  | c :: t, k, h, r, hr => by
    simp only [hangsL, List.mem_append] at h
    simp only [rootsL, List.mem_append]
    rcases h with h | h
    · exact .inl (C.hangs_roots c k h r hr)
    · exact .inr (hangsL_roots t k h r hr)
end
mutual
theorem V.hangs_roots : ∀ (x : V) (k : Key), k ∈ x.hangs → (∀ r, k.root? = some r → r ∈ x.roots)
  | .one c, k, h, r, hr => C.hangs_roots c k h r hr
  | .agg cs, k, h, r, hr => hangsL_roots cs k h r hr
  | .tup vs, k, h, r, hr => hangsVs_roots vs k h r hr
theorem hangsVs_roots : ∀ (l : List V) (k : Key), k ∈ hangsVs l → (∀ r, k.root? = some r → r ∈ rootsVs l)
  | [], k, h, _, _ => by simp [hangsVs] at h
  | c :: t, k, h, r, hr => by
    simp only [hangsVs, List.mem_append] at h
    simp only [rootsVs, List.mem_append]
    rcases h with h | h
    · exact .inl (V.hangs_roots c k h r hr)
    · exact .inr (hangsVs_roots t k h r hr)
end

theorem gc_sound {S' : St} (R : Rel nm N S a w L) (h : S.gc = some S') : Rel nm N S' a w L := by
  unfold St.gc at h
  dsimp only at h
  generalize growRoots S 3 (slotRoots S) = live at h
  split at h
  · rename_i hall
    simp only [Option.some.injEq] at h
    subst h
    have hget : ∀ k, (loosenAll (S.filter fun x => gcKeep live x.1)).get k = if gcKeep live k = true then ⟨(S.get k).v.loosen, (S.get k).g⟩ else ⟨.one .dead, 0⟩ := by
      intro k
      rw [get_loosen, get_filter]
      split <;> rfl
    have hg : ∀ k, (loosenAll (S.filter fun x => gcKeep live x.1)).E k = if gcKeep live k = true then (S.E k).loosen else V.dead := by
      intro k
      unfold St.E
      rw [hget]
      split <;> rfl
    have hkeq : ∀ r c, gcKeep live (.b r c) = gcKeep live (.r r) := fun _ _ => rfl
    have hsz : ∀ r, gcKeep live (.r r) = true → (loosenAll (S.filter fun x => gcKeep live x.1)).E (.r r) = (S.E (.r r)).loosen := fun r h => by rw [hg, if_pos h]
    have hbn : ∀ x : V, boxN x.loosen = boxN x := by
      intro x
      cases x with
      | one c =>
        cases c with
        | d z => cases z with
          | sl t sz rows => cases t <;> rfl
          | _ => rfl
        | _ => rfl
      | _ => rfl
    have hln : ∀ x : V, boxN x ≠ 0 → x.loosen = x := by
      intro x hx
      cases x with
      | one c =>
        cases c with
        | d z => cases z with
          | sl t sz rows => simp [boxN] at hx
          | _ => rfl
        | _ => rfl
      | _ => rfl
    refine R.forget ?_ ?_ ?_ ?_
    · intro k
      rw [hg]
      split
      · exact .inl (.inr rfl)
      · exact .inr rfl
    · intro r hr
      rw [hg] at hr ⊢
      split at hr
      · rename_i hk
        rw [if_pos hk]
        rw [hbn] at hr
        exact hln _ hr
      · exact absurd rfl hr
    · intro r c hd
      rw [hg] at hd
      split at hd
      · rename_i hk
        rw [hg, if_pos (by rw [← hkeq r c]; exact hk), hbn]
      · exact absurd rfl hd
    · intro k y hk hd hy
      rw [hg] at hd
      split at hd
      · rename_i hkk
        have hkeep : gcKeep live y = true := by
          unfold gcKeep
          split
          · rename_i r hr
            have hm := V.hangs_roots _ _ hy r hr
            have h0 := get_filter (gcKeep live) S k
            rw [if_pos hkk] at h0
            rcases get_mem (List.filter (fun x => gcKeep live x.1) S) k with h1 | h1
            · rw [h0] at h1
              have : S.E k = .one .dead := by unfold St.E; rw [h1]
              rw [this] at hy
              simp [V.hangs, C.hangs] at hy
            · rw [h0] at h1
              have := List.all_eq_true.1 hall _ h1
              exact List.all_eq_true.1 this r hm
          · rfl
        unfold St.γ
        rw [hget, if_pos hkeep]
      · exact absurd rfl hd
  · cases h

/-- Regions. -/
theorem reg_sound (hmx : P.follows .mixedOrders = true) (hc : CallOk P nm Cl) (hN : hh.nt = N) {id : Nat} {draw : Bool} {keep : Option (List Nat)} {gc : Bool} {l : List IOper} (hl : compOps P nm hh ops = some l) (hok : draw = true → edgesOk ops = true) (R : Rel nm N S a w L) (hH : NoH L) {Sf : St}
    (he : evReg Cl keep gc l (if draw then some (unordered ops) else none) S = some Sf) {Q : Exit → Act → World → Prop} (hQ : ∀ a' w' L', Done nm N Sf w L a' w' L' → Q .normal a' w') : (Code.region id ops draw).wp P Q a w := by
  unfold evReg at he
  obtain ⟨S1, h1, h2⟩ := Option.bind_eq_some_iff.1 he
  obtain ⟨S2, h3, h4⟩ := Option.bind_eq_some_iff.1 h2
  have R1 : Rel nm N S1 a w L := by
    cases keep with
    | none => simp only [Option.some.injEq] at h1; subst h1; exact R
    | some kl => exact norm_sound R h1
  have R2 : Rel nm N S2 a w L := by
    cases gc with
    | false => simp only [Bool.false_eq_true, if_false, Option.some.injEq] at h3; subst h3; exact R1
    | true => simp only [if_true] at h3; exact gc_sound R1 h3
  obtain ⟨g1, g2⟩ := compOps_inv hl
  have hforg : ∀ (l' : List IOper) {S Sf : St} {F : List Foot}, evOpsF Cl l' S = some (Sf, F) → evOps Cl l' S = some Sf := by
    intro l'
    induction l' with
    | nil => intro S Sf F h; simp only [evOpsF, Option.some.injEq, Prod.mk.injEq] at h; simp [evOps, h.1]
    | cons o t ih =>
      intro S Sf F h
      simp only [evOpsF] at h
      simp only [evOps]
      cases hw : (evOper Cl o).run S with
      | none => simp [hw] at h
      | some ws =>
        simp only [hw, Option.bind_some] at h ⊢
        obtain ⟨⟨S1, F1⟩, k1, k2⟩ := map_some' h
        simp only [Prod.mk.injEq] at k2
        rw [k2.1]
        exact ih k1
  cases draw with
  | false =>
    simp only [Bool.false_eq_true, if_false] at h4
    refine wp_region ?_
    rw [List.range_eq_range']
    exact ops_sound hc hN hl ops.size 0 (by omega) R2 hH (by simpa using h4) hQ
  | true =>
    have hDrew : Rel nm N S2 a w.drew L := R2.drew
    have hfoot : ∃ F, evOpsF Cl l S2 = some (Sf, F) ∧ pairsOk F (unordered ops) = true := by
      simp only [if_true] at h4
      split at h4
      · rename_i heq; cases heq
      · rename_i hun
        have hrun : ∀ (l' : List IOper) {S Sf : St}, evOps Cl l' S = some Sf → ∃ F, evOpsF Cl l' S = some (Sf, F) := by
          intro l'
          induction l' with
          | nil => intro S Sf h; simp only [evOps, Option.some.injEq] at h; exact ⟨[], by simp [evOpsF, h]⟩
          | cons o t ih =>
            intro S Sf h
            simp only [evOps] at h
            simp only [evOpsF]
            cases hw : (evOper Cl o).run S with
            | none => simp [hw] at h
            | some ws =>
              simp only [hw, Option.bind_some] at h ⊢
              obtain ⟨F, k1⟩ := ih h
              exact ⟨_, by rw [k1]; rfl⟩
        obtain ⟨F, k1⟩ := hrun l h4
        refine ⟨F, k1, ?_⟩
        have : unordered ops = [] := by simpa using hun
        rw [this]; rfl
      · rename_i ps _ hps
        obtain ⟨⟨S3, F⟩, k1, k2⟩ := Option.bind_eq_some_iff.1 h4
        split at k2
        · rename_i hp
          simp only [Option.some.injEq] at k2
          subst k2
          have : unordered ops = ps := by simpa using hps
          exact ⟨F, k1, by rw [this]; exact hp⟩
        · cases k2
    obtain ⟨F, hF, hpairs⟩ := hfoot
    have hFl : F.length = l.length := by
      have : ∀ (l' : List IOper) {S Sf : St} {F : List Foot}, evOpsF Cl l' S = some (Sf, F) → F.length = l'.length := by
        intro l'
        induction l' with
        | nil =>
          intro S Sf F h
          simp only [evOpsF, Option.some.injEq, Prod.mk.injEq] at h
          rw [← h.2]; rfl
        | cons o t ih =>
          intro S Sf F h
          simp only [evOpsF] at h
          cases hw : (evOper Cl o).run S with
          | none => simp [hw] at h
          | some ws =>
            simp only [hw, Option.bind_some] at h
            obtain ⟨⟨S1, F1⟩, k1, k2⟩ := map_some' h
            simp only [Prod.mk.injEq] at k2
            rw [k2.2]
            simp [ih k1]
      exact this l hF
    refine wp_region_any hmx ?_
    have hmap : (List.range ops.size).map (fun i => l.getD i default) = l := by
      apply List.ext_getElem?
      intro i
      rw [List.getElem?_map]
      by_cases hi : i < ops.size
      · rw [List.getElem?_range hi]
        simp [List.getD_eq_getElem?_getD, show i < l.length by omega]
      · rw [List.getElem?_eq_none (by simp; omega), List.getElem?_eq_none (by omega)]; rfl
    have hmapF : (List.range ops.size).map (fun i => F.getD i ⟨[], []⟩) = F := by
      apply List.ext_getElem?
      intro i
      rw [List.getElem?_map]
      by_cases hi : i < ops.size
      · rw [List.getElem?_range hi]
        simp [List.getD_eq_getElem?_getD, show i < F.length by omega]
      · rw [List.getElem?_eq_none (by simp; omega), List.getElem?_eq_none (by omega)]; rfl
    refine any_sound (S := S2) (Sf := Sf) (L := L) hc hN hl (hok rfl) (φ := fun i => F.getD i ⟨[], []⟩) ?_ ops.size (List.range ops.size) _ (by simp) (by simp) List.pairwise_lt_range ?_ ?_ hDrew hH (by rw [hmap, hmapF]; exact hF) ?_
    · intro i j hij hj hb
      have hm : (i, j) ∈ unordered ops := by
        unfold unordered
        refine List.mem_flatMap.2 ⟨j, List.mem_range.2 hj, List.mem_filterMap.2 ⟨i, List.mem_range.2 hij, ?_⟩⟩
        rw [hb]; rfl
      have := List.all_eq_true.1 hpairs (i, j) hm
      simp only at this
      rw [List.getElem?_eq_getElem (by omega), List.getElem?_eq_getElem (by omega)] at this
      simp only [List.getD_eq_getElem?_getD, List.getElem?_eq_getElem (show i < F.length by omega), List.getElem?_eq_getElem (show j < F.length by omega), Option.getD_some]
      exact this
    · intro i
      rw [List.mem_range]
      constructor
      · intro hi; exact ⟨hi, by simp [Array.getD_eq_getD_getElem?, hi]⟩
      · exact fun h => h.1
    · intro i o ho hi
      have : i < ops.size := (Array.getElem?_eq_some_iff.1 ho).1
      simp [Array.getD_eq_getD_getElem?, this] at hi
    · intro a' w' L' D
      exact hQ a' w' L' ⟨D.rel, (Mono.drew w L).trans D.mono, D.noH⟩
end
end Go.Abs
