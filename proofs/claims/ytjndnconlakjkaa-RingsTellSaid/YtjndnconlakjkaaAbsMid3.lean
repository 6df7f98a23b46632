/- In the middle of an operation: a slice of an entry's own is handed on; what was appended settles. -/
import Derived.Test.YtjndnconlakjkaaAbsMid2
set_option linter.unusedVariables false
set_option linter.unusedSimpArgs false
namespace Go.Abs
section
variable {nm : FuncId → Option Nat} {N : Nat} {S0 : St} {w0 : World} {L0 : LabF} {ws : List Wr} {a : Act} {w : World} {L : LabF}

theorem Out.of_relab (M : Mid nm N S0 w0 L0 ws a w L) {ws' : List Wr} {L' : LabF} {K : Place → Prop} {m : Nat}
    (hrel : Rel nm N (S0.wrs ws') a w L') (hcnt : ∀ k, (S0.wrs ws).γ k ≤ (S0.wrs ws').γ k)
    (himm : ∀ B, L B = some .imm → L' B = some .imm) (hnone : ∀ B, L B = none → L' B = none)
    (hbox : ∀ B r o, L B = some (.box r o) → L' B = some (.box r o))
    (hpl : ∀ B q o, q.k.isPl = true → (S0.wrs ws').γ q.k = (S0.wrs ws).γ q.k → L B = some (.row q o) → L' B = some (.row q o))
    (hback : ∀ B q o, q.k.isPl = true → L' B = some (.row q o) → L B = some (.row q o))
    (hK : ∀ B q o, q.k.isPl = false → K q → L B = some (.row q o) → L' B = some (.row q o))
    (hm : ∀ B q o, q.k.isPl = false → q.k ≠ .h m → L' B = some (.row q o) → L B = some (.row q o)) :
    Out nm N S0 w0 L0 ws ws' a w L L' K m := by
  have hst : Step w w L L' (S0.wrs ws).γ (S0.wrs ws').γ :=
    ⟨fun B hB => ⟨himm B hB, rfl⟩, hcnt, fun B q o hq hγ hL => ⟨hpl B q o hq hγ hL, fun cur e fz hB => ⟨cur, hB, rfl⟩⟩, fun _ _ _ _ _ _ _ => rfl, fun B r o _ hB => hbox B r o hB⟩
  refine ⟨⟨hrel, M.stp.trans hst, M.mono.trans ⟨rfl, rfl, rfl, Nat.le_refl _, fun B hB => ⟨himm B hB, rfl⟩, fun B _ hB => ⟨hnone B hB, rfl⟩, fun B i o hB => hbox B _ o hB⟩, ?_, M.heap, M.inj0, fun B r o hB => hbox B r o (M.boxes B r o hB)⟩, hst, hK, hm⟩
  intro B q o hq hL
  exact M.rows B q o hq (hback B q o hq hL)

theorem relab_none {f : Place → Option Place} {B : Nat} (h : L B = none) : relab f L B = none := by simp [relab, h]

theorem isPl_cases {k : Key} (hk : k.isPl = true) : (∃ i, k = .s i) ∨ ∃ r c, k = .b r c := by
  cases k with
  | s i => exact .inl ⟨i, rfl⟩
  | b r c => exact .inr ⟨r, c, rfl⟩
  | _ => simp [Key.isPl] at hk

theorem Rel.setCellDead {S : St} (h : Rel nm N S a w L) {k : Key} {j : Nat} {c : C} {L' : LabF}
    (hk : k.isPl = true) (hE : (S.E k).cells[j]? = some c) (hcd : c ≠ .dead)
    (himm : ∀ B, L B = some .imm → L' B = some .imm)
    (hown : ∀ B q o, q.k ≠ k → q.k.isPl = true → L B = some (.row q o) → L' B = some (.row q o))
    (hownj : ∀ B q o, q.k = k → q.j ≠ j → L B = some (.row q o) → L' B = some (.row q o))
    (hbox : ∀ B r o, L' B = some (.box r o) ↔ L B = some (.box r o))
    (hd : ∀ B l, L' B = some l → ∃ l0, L B = some l0) (hri : RowInj L') :
    Rel nm N (S.wr { k, v := (S.E k).setCell j .dead }) a w L' :=
  h.setCellL (isPl_cases hk) hE hcd himm hown hownj hbox hd hri (fun u _ => .dead)

/-- The part of a way behind a place's. -/
def Place.rest (pl q : Place) : List (Nat × Nat) := q.p.drop pl.p.length
theorem Place.rest_app (pl : Place) (r : List (Nat × Nat)) : pl.rest (pl.app r) = r := by simp [Place.rest, Place.app]

open Classical in
/-- The labels of a place, for what is under way; 'sel' tells which of the ways come from the place: the others are there already. -/
noncomputable def cellTo (pl : Place) (m j : Nat) (sel : List (Nat × Nat) → Bool) : Place → Option Place := fun q =>
  if Under pl q then (if sel (pl.rest q) = true then some ⟨.h m, j, pl.rest q⟩ else none)
  else if q.k = .h m ∧ q.j = j then (if sel q.p = true then none else some q) else some q

theorem Under.eq {pl q : Place} (h : Under pl q) : q = pl.app (pl.rest q) := by
  obtain ⟨r, rfl⟩ := h
  rw [Place.rest_app]

theorem cellTo_fix {pl : Place} {m j : Nat} {sel : List (Nat × Nat) → Bool} {q : Place} (h1 : ¬ Under pl q) (h2 : ¬ (q.k = .h m ∧ q.j = j)) : cellTo pl m j sel q = some q := by
  unfold cellTo; rw [if_neg h1, if_neg h2]
theorem cellTo_mov {pl : Place} {m j : Nat} {sel : List (Nat × Nat) → Bool} {q : Place} (h1 : Under pl q) (h2 : sel (pl.rest q) = true) : cellTo pl m j sel q = some ⟨.h m, j, pl.rest q⟩ := by
  unfold cellTo; rw [if_pos h1, if_pos h2]
theorem cellTo_stay {pl : Place} {m j : Nat} {sel : List (Nat × Nat) → Bool} {q : Place} (h1 : ¬ Under pl q) (h2 : q.k = .h m ∧ q.j = j) (h3 : sel q.p = false) : cellTo pl m j sel q = some q := by
  unfold cellTo; rw [if_neg h1, if_pos h2, if_neg (by simp [h3])]
theorem cellTo_cases {pl : Place} {m j : Nat} {sel : List (Nat × Nat) → Bool} {q t : Place} (h : cellTo pl m j sel q = some t) :
    (Under pl q ∧ sel (pl.rest q) = true ∧ t = ⟨.h m, j, pl.rest q⟩) ∨ (¬ Under pl q ∧ (q.k = .h m ∧ q.j = j) ∧ sel q.p = false ∧ t = q) ∨ (¬ Under pl q ∧ ¬ (q.k = .h m ∧ q.j = j) ∧ t = q) := by
  unfold cellTo at h
  by_cases hu : Under pl q
  · rw [if_pos hu] at h
    by_cases hs : sel (pl.rest q) = true
    · rw [if_pos hs] at h; exact .inl ⟨hu, hs, by simpa using h.symm⟩
    · rw [if_neg hs] at h; cases h
  · rw [if_neg hu] at h
    by_cases hm : q.k = .h m ∧ q.j = j
    · rw [if_pos hm] at h
      by_cases hs : sel q.p = true
      · rw [if_pos hs] at h; cases h
      · rw [if_neg hs] at h; exact .inr (.inl ⟨hu, hm, by simpa using hs, by simpa using h.symm⟩)
    · rw [if_neg hm] at h; exact .inr (.inr ⟨hu, hm, by simpa using h.symm⟩)

theorem cellTo_inj (pl : Place) (m j : Nat) (sel : List (Nat × Nat) → Bool) {q q' t : Place} (h1 : cellTo pl m j sel q = some t) (h2 : cellTo pl m j sel q' = some t) : q = q' := by
  rcases cellTo_cases h1 with ⟨a1, a2, a3⟩ | ⟨a1, a2, a3, a4⟩ | ⟨a1, a2, a3⟩ <;> rcases cellTo_cases h2 with ⟨b1, b2, b3⟩ | ⟨b1, b2, b3, b4⟩ | ⟨b1, b2, b3⟩
  · rw [a3] at b3
    simp only [Place.mk.injEq, true_and] at b3
    rw [a1.eq, b1.eq, b3]
  · rw [← b4, a3] at b3
    simp only at b3
    rw [a2] at b3; cases b3
  · exact absurd (by rw [← b3, a3]; exact ⟨rfl, rfl⟩) b2
  · rw [← a4, b3] at a3
    simp only at a3
    rw [b2] at a3; cases a3
  · rw [← a4, ← b4]
  · exact absurd (by rw [← b3, a4]; exact a2) b2
  · exact absurd (by rw [← a3, b3]; exact ⟨rfl, rfl⟩) a2
  · exact absurd (by rw [← a3, b4]; exact b2) a2
  · rw [← a3, ← b3]

theorem cellTo_back {pl : Place} {m j : Nat} {sel : List (Nat × Nat) → Bool} {q t : Place} (h1 : cellTo pl m j sel q = some t) (h2 : ¬ (t.k = .h m ∧ t.j = j)) : q = t ∧ ¬ Under pl q := by
  rcases cellTo_cases h1 with ⟨a1, a2, a3⟩ | ⟨a1, a2, a3, a4⟩ | ⟨a1, a2, a3⟩
  · exact absurd (by rw [a3]; exact ⟨rfl, rfl⟩) h2
  · exact absurd (by rw [a4]; exact a2) h2
  · exact ⟨a3.symm, a1⟩

/-- What lies at a place is handed on: the state behind it. -/
theorem Mid.handOn (M : Mid nm N S0 w0 L0 ws a w L) {m j : Nat} {pl : Place} (hk : pl.k.isPl = true) {sz : Nat} {rows : List (List D)} {x : D} (b : List (Nat × Nat) → Bool)
    (hE : ((S0.wrs ws).E pl.k).cells[pl.j]? = some (.d x)) (hn : navD x pl.p = some (.sl .own sz rows)) :
    Out nm N S0 w0 L0 ws (setWr ws pl.k (killAt ((S0.wrs ws).E pl.k) pl x)) a w L (relab (cellTo pl m j b) L) (fun q => ¬ (q.k = .h m ∧ q.j = j)) m := by
  have hplh : pl.k ≠ .h m := fun e => by rw [e] at hk; simp [Key.isPl] at hk
  have hri : RowInj (relab (cellTo pl m j b) L) := relab_inj M.rel.rowInj (fun q q' t B B' o o' h1 h2 _ _ => cellTo_inj pl m j b h1 h2)
  have hnh : ∀ {q : Place}, q.k.isPl = true → ¬ (q.k = .h m ∧ q.j = j) := fun hq h => by rw [h.1] at hq; simp [Key.isPl] at hq
  have hrel : Rel nm N ((S0.wrs ws).wr { k := pl.k, v := killAt ((S0.wrs ws).E pl.k) pl x }) a w (relab (cellTo pl m j b) L) := by
    refine M.rel.setCellL (isPl_cases hk) hE (by simp) (fun B hB => relab_imm.2 hB) ?_ ?_ (fun B r o => relab_box) (fun B l hB => relab_dom hB) hri ?_
    · intro B q o hq hqp hL
      exact relab_of_row hL (cellTo_fix (fun h => hq h.key.1) (hnh hqp))
    · intro B q o hq hqj hL
      exact relab_of_row hL (cellTo_fix (fun h => hqj h.key.2) (hnh (by rw [hq]; exact hk)))
    · intro u hu
      cases hu with
      | d hd =>
        refine .d ?_
        have hap : (⟨pl.k, pl.j, []⟩ : Place).app pl.p = pl := Place.app_self pl
        refine RepD.subst pl.p hd hn (fun B hB => ⟨relab_imm.2 hB, rfl⟩) ?_ ?_
        · intro B' q o' h1 h2 h3
          rw [hap] at h2
          exact relab_of_row h3 (cellTo_fix h2 (hnh (by rw [h1.key.1]; exact hk)))
        · intro u' hu'
          exact .plain (.dead hu'.oneCell)
  refine Out.of_relab M hrel (fun k => St.γ_wr_le _ _ k) (fun B hB => relab_imm.2 hB) (fun B hB => relab_none hB) (fun B r o hB => relab_box.2 hB) ?_ ?_ ?_ ?_
  · intro B q o hq hγ hL
    have : q.k ≠ pl.k := by
      intro e
      rw [e] at hγ
      simp only [setWr, St.wrs, γ_bump, bump, if_true] at hγ
      omega
    exact relab_of_row hL (cellTo_fix (fun h => this h.key.1) (hnh hq))
  · intro B q o hq hL
    obtain ⟨q0, h1, h2⟩ := relab_row hL
    have := (cellTo_back h2 (hnh hq)).1
    rwa [this] at h1
  · intro B q o hq hK hL
    refine relab_of_row hL (cellTo_fix (fun h => ?_) hK)
    rw [h.key.1, hk] at hq; cases hq
  · intro B q o hq hqm hL
    obtain ⟨q0, h1, h2⟩ := relab_row hL
    have := (cellTo_back h2 (fun h => hqm h.1)).1
    rwa [this] at h1

theorem Under.rest_sub {pl q : Place} (h : Under pl q) (i c : Nat) : pl.rest (q.sub i c) = pl.rest q ++ [(i, c)] := by
  obtain ⟨r, rfl⟩ := h
  rw [← Place.app_sub, Place.rest_app, Place.rest_app]

theorem rest_self (pl : Place) : pl.rest pl = [] := by have := Place.rest_app pl []; rwa [Place.app_nil] at this
theorem rest_sub1 (pl : Place) (i c : Nat) : pl.rest (pl.sub i c) = [(i, c)] := by rw [(Under.refl pl).rest_sub, rest_self]; rfl

/-- Which ways come from the place. -/
def selOf (b : Bool) (n0 : Nat) : List (Nat × Nat) → Bool
  | [] => b
  | (i, _) :: _ => decide (i < n0)
theorem selOf_sub {b : Bool} {n0 i c : Nat} {r : List (Nat × Nat)} (h : ∃ r', r = (i, c) :: r') : selOf b n0 r = decide (i < n0) := by
  obtain ⟨r', rfl⟩ := h; rfl

theorem move_under {pl : Place} {m j : Nat} {b : Bool} {n0 i c : Nat} {x : D} {u : Value} (hi : i < n0) (h : RepD w L (pl.sub i c) x u) :
    RepD w (relab (cellTo pl m j (selOf b n0)) L) ((⟨.h m, j, []⟩ : Place).sub i c) x u := by
  have := RepD.move (w' := w) (L' := relab (cellTo pl m j (selOf b n0)) L) (fun q => ⟨.h m, j, pl.rest q⟩) (fun q => Under pl q ∧ ∃ r, pl.rest q = (i, c) :: r)
    (fun q i' c' h => ⟨h.1.sub i' c', by obtain ⟨r, hr⟩ := h.2; rw [h.1.rest_sub, hr]; exact ⟨_, rfl⟩⟩)
    (fun q i c h => by rw [h.1.rest_sub]; rfl) (fun B hB => ⟨relab_imm.2 hB, rfl⟩)
    (fun B q o hq hL => ⟨relab_of_row hL (cellTo_mov hq.1 (by obtain ⟨r, hr⟩ := hq.2; rw [hr]; simp [selOf, hi])), rfl⟩) h ⟨(Under.refl pl).sub i c, [], rest_sub1 pl i c⟩
  rwa [rest_sub1] at this

theorem stay_under {pl : Place} (hp : pl.k.isPl = true) {m j : Nat} {b : Bool} {n0 i c : Nat} {x : D} {u : Value} (hi : ¬ i < n0) (h : RepD w L ((⟨.h m, j, []⟩ : Place).sub i c) x u) :
    RepD w (relab (cellTo pl m j (selOf b n0)) L) ((⟨.h m, j, []⟩ : Place).sub i c) x u := by
  refine RepD.move (w' := w) (L' := relab (cellTo pl m j (selOf b n0)) L) id (fun q => (q.k = .h m ∧ q.j = j) ∧ ∃ r, q.p = (i, c) :: r)
    (fun q i' c' h => ⟨h.1, by obtain ⟨r, hr⟩ := h.2; exact ⟨r ++ [(i', c')], by simp [Place.sub, hr]⟩⟩)
    (fun _ _ _ _ => rfl) (fun B hB => ⟨relab_imm.2 hB, rfl⟩)
    (fun B q o hq hL => ⟨relab_of_row hL (cellTo_stay (fun hu => ?_) hq.1 (by obtain ⟨r, hr⟩ := hq.2; rw [hr]; simp [selOf, hi])), rfl⟩) h ⟨⟨rfl, rfl⟩, [], rfl⟩
  rw [← hu.key.1, hq.1.1] at hp
  simp [Key.isPl] at hp

/-- A slice of an entry's own is handed on. -/
theorem Mid.moveOut (M : Mid nm N S0 w0 L0 ws a w L) {m j : Nat} {pl : Place} (hk : pl.k.isPl = true) {sz : Nat} {rows : List (List D)} {v : Value} {x : D}
    (hE : ((S0.wrs ws).E pl.k).cells[pl.j]? = some (.d x)) (hn : navD x pl.p = some (.sl .own sz rows)) (hV : ViewAt w0 L0 pl sz 0 rows.length v)
    (hfr : rows = [] → getWr ws pl.k = none) :
    ∃ L', Out nm N S0 w0 L0 ws (setWr ws pl.k (killAt ((S0.wrs ws).E pl.k) pl x)) a w L L' (fun q => ¬ (q.k = .h m ∧ q.j = j)) m ∧
      RepC nm w L' (S0.wrs (setWr ws pl.k (killAt ((S0.wrs ws).E pl.k) pl x))).γ (.h m) j (.d (.sl .own sz rows)) v := by
  refine ⟨_, M.handOn hk (selOf true rows.length) hE hn, .d ?_⟩
  obtain ⟨u, hu⟩ := M.at_own hk hE hn
  rcases hV with ⟨h0, a0, rfl⟩ | ⟨B, o, cap, cur, e, fz, rfl, hsz, hL0, hB0, hfz, hle, hroom⟩
  · have : rows = [] := List.length_eq_zero_iff.1 h0
    subst this
    exact .ownE
  · have hL : L B = some (.row pl o) := by
      by_cases hr : rows = []
      · exact (M.stp.view B pl o hk (γ_wrs_none (hfr hr)) hL0).1
      · rcases hu.own_inv with ⟨h1, _⟩ | ⟨B', o', cap', cur', e', fz', val, _, _, hL', _⟩
        · exact absurd h1 hr
        · have hL0' := M.rows B' pl o' hk hL'
          obtain rfl := M.inj0 B' B pl o' o hL0' hL0
          obtain rfl : o' = o := by rw [hL0'] at hL0; simpa using hL0
          exact hL'
    have hB : w.heap[B]? = some (.cells cur e fz) := (M.heap B _ hL0).trans hB0
    simp only [Nat.zero_mul, Nat.add_zero] at hroom ⊢
    have hL1 : relab (cellTo pl m j (selOf true rows.length)) L B = some (.row ⟨.h m, j, []⟩ o) := by
      have := relab_of_row hL (cellTo_mov (m := m) (j := j) (sel := selOf true rows.length) (Under.refl pl) (by rw [rest_self]; rfl))
      rwa [rest_self] at this
    rcases hu.own_inv with ⟨rfl, _⟩ | ⟨B', o', cap', cur', e', fz', val, _, _, hL', hB', _, hlens, hcap', hroom', hval, hr⟩
    · refine .own (fun _ _ => undef) hsz hL1 hB hfz (by simp) (by simp) hroom (fun i c x hx => by simp [cellOf] at hx) (fun i c x hx => by simp [cellOf] at hx)
    · obtain rfl := M.rel.rowInj B' B pl o' o hL' hL
      obtain rfl : o' = o := by rw [hL'] at hL; simpa using hL
      obtain ⟨rfl, rfl, rfl⟩ : cur' = cur ∧ e' = e ∧ fz' = fz := by rw [hB'] at hB; simpa using hB
      refine .own val hsz hL1 hB hfz hlens hle hroom hval ?_
      intro i c x hx
      exact move_under (cellOf_lt hlens hx).1 (hr i c x hx)

/-- What was appended to a slice settles. -/
theorem settle_rep (M : Mid nm N S0 w0 L0 ws a w L) {m j : Nat} {pl : Place} {g aa sz : Nat} {rows : List (List D)} {v : Value}
    (hc : LimC nm w0 L0 S0.γ w L (S0.wrs ws).γ m j (.appd pl g aa sz rows) v) {r : C × List Wr}
    (hr : (settle ws pl g aa sz rows).run S0 = some r) :
    ∃ L', Out nm N S0 w0 L0 ws r.2 a w L L' (fun q => ¬ (q.k = .h m ∧ q.j = j)) m ∧ RepC nm w L' (S0.wrs r.2).γ (.h m) j r.1 v := by
  simp only [settle, Q.run_bind] at hr
  cases ho : (ownAt ws pl g sz).run S0 with
  | none => simp [ho] at hr
  | some e =>
    obtain ⟨e, x, old⟩ := e
    obtain ⟨rfl, hg, hE, hn⟩ := ownAt_run ho
    simp only [ho, Option.bind_some, Q.run_bind, Q.run_at, Q.run_guard] at hr
    cases hgd : ((S0.get (.a pl.k)).g == aa && fresh ws pl.k) with
    | false => simp [hgd] at hr
    | true =>
      simp only [hgd, if_true, Option.bind_some, Q.run_pure, Option.some.injEq] at hr
      subst hr
      simp only [Bool.and_eq_true, beq_iff_eq] at hgd
      obtain ⟨g1, g2, _⟩ := fresh_γ (S := S0) hgd.2
      cases hc with
      | appd hv hh hgle hale hV =>
        have hA := hV (by rw [g1]; exact hg) (by rw [g2]; exact hgd.1.symm)
        rcases hA with ⟨rfl, a0, rfl⟩ | ⟨B, o, cap, cur, e, fz, n0, val, rfl, hsz, hL, hB, hfz, hlens, hcap, hroom, hval, hd⟩
        · exact ⟨_, M.handOn hh (selOf true 0) hE hn, .d .ownE⟩
        · have hin : ∀ (b : Bool) i c x, cellOf rows i c = some x → RepD w (relab (cellTo pl m j (selOf b n0)) L) ((⟨.h m, j, []⟩ : Place).sub i c) x (val i c) := by
            intro b i c x hx
            have h0 := hd i c x hx
            by_cases hi : i < n0
            · rw [if_pos hi] at h0; exact move_under hi h0
            · rw [if_neg hi] at h0; exact stay_under hh hi h0
          rcases hL with hL | hL
          · have hL1 : relab (cellTo pl m j (selOf true n0)) L B = some (.row ⟨.h m, j, []⟩ o) := by
              have := relab_of_row hL (cellTo_mov (m := m) (j := j) (sel := selOf true n0) (Under.refl pl) (by rw [rest_self]; rfl))
              rwa [rest_self] at this
            exact ⟨_, M.handOn hh (selOf true n0) hE hn, .d (.own val hsz hL1 hB hfz hlens hcap hroom hval (hin true))⟩
          · have hL1 : relab (cellTo pl m j (selOf false n0)) L B = some (.row ⟨.h m, j, []⟩ o) := by
              refine relab_of_row hL (cellTo_stay (fun hu => ?_) ⟨rfl, rfl⟩ rfl)
              have := hu.key.1; simp only at this; rw [← this] at hh; simp [Key.isPl] at hh
            exact ⟨_, M.handOn hh (selOf false n0) hE hn, .d (.own val hsz hL1 hB hfz hlens hcap hroom hval (hin false))⟩

theorem stAt_rep (M : Mid nm N S0 w0 L0 ws a w L) {m j : Nat} {P : Place} {c : C} {v : Value} (hc : LimC nm w0 L0 S0.γ w L (S0.wrs ws).γ m j c v) {r : C × List Wr}
    (hr : (stAt ws P c).run S0 = some r) :
    ∃ L', Out nm N S0 w0 L0 ws r.2 a w L L' (fun q => ¬ (q.k = .h m ∧ q.j = j)) m ∧ RepC nm w L' (S0.wrs r.2).γ (.h m) j r.1 v := by
  cases c with
  | appd pl g aa sz rows =>
    simp only [stAt] at hr
    split at hr
    · exact settle_rep M hc hr
    · exact st_rep M hc hr
  | _ => exact st_rep M hc hr

theorem stMv_rep (M : Mid nm N S0 w0 L0 ws a w L) {m j : Nat} {P : Place} {c : C} {v : Value} (hc : LimC nm w0 L0 S0.γ w L (S0.wrs ws).γ m j c v) {r : C × List Wr}
    (hr : (stMv ws P c).run S0 = some r) :
    ∃ L', Out nm N S0 w0 L0 ws r.2 a w L L' (fun q => ¬ (q.k = .h m ∧ q.j = j)) m ∧ RepC nm w L' (S0.wrs r.2).γ (.h m) j r.1 v := by
  cases c with
  | appd pl g aa sz rows =>
    simp only [stMv] at hr
    split at hr
    · exact settle_rep M hc hr
    · exact stAt_rep M hc hr
  | view pl g sz off len =>
    simp only [stMv, Q.run_bind] at hr
    cases ho : (ownAt ws pl g sz).run S0 with
    | none => simp [ho] at hr
    | some e =>
      obtain ⟨e, x, rows⟩ := e
      obtain ⟨rfl, hg, hE, hn⟩ := ownAt_run ho
      simp only [ho, Option.bind_some, Q.run_ite, Q.run_ask] at hr
      split at hr
      · rename_i hcond
        simp only [Bool.and_eq_true, beq_iff_eq, Bool.or_eq_true] at hcond
        obtain ⟨⟨⟨⟨h1, h2⟩, _⟩, _⟩, h3⟩ := hcond
        simp only [Q.run_pure, Option.some.injEq] at hr
        subst hr
        cases hc with
        | view hv hh hgle hV =>
          refine M.moveOut hh hE hn (by have := hV hg; rwa [h1, h2] at this) ?_
          intro he
          rcases h3 with h3 | h3
          · simp [he] at h3
          · simpa using h3
      · exact st_rep M hc hr
  | _ => exact st_rep M hc hr
end
end Go.Abs
