/- An evaluator of the model's code over plain data, and that what it answers the model does: part 3 of 11. -/
import Derived.Test.YtaifamiafiefkaaGreatDoorAbs1
import Derived.Laws.IdiomCopy
import Derived.Laws.AppendOwn
set_option linter.unusedVariables false
set_option linter.unusedSimpArgs false
namespace Go.Abs
section
section
variable {nm : FuncId → Option Nat} {N : Nat} {S0 : St} {w0 : World} {L0 : LabF} {ws : List Wr} {a : Act} {w : World} {L : LabF}
theorem Out.of_relab (M : Mid nm N S0 w0 L0 ws a w L) {ws' : List Wr} {L' : LabF} {K : Place → Prop} {m : Nat}
    (hrel : Rel nm N (S0.wrs ws') a w L') (hcnt : ∀ k, (S0.wrs ws).γ k ≤ (S0.wrs ws').γ k)
    (himm : ∀ B, L B = some .imm → L' B = some .imm) (hnone : ∀ B, L B = none → L' B = none)
    (hbox : ∀ B r o, L B = some (.box r o) → L' B = some (.box r o))
    (hpl : ∀ B q o, q.k.isPl = true → (S0.wrs ws').γ q.k = (S0.wrs ws).γ q.k → L B = some (.row q o) → L' B = some (.row q o))
    (hback : ∀ B q o, q.k.isPl = true → L' B = some (.row q o) → L B = some (.row q o))
    (hK : ∀ B q o, q.k.isPl = false → K q → L B = some (.row q o) → L' B = some (.row q o))
    (hm : ∀ B q o, q.k.isPl = false → q.k ≠ .h m → L' B = some (.row q o) → L B = some (.row q o)) :
    Out nm N S0 w0 L0 ws ws' a w L L' K m := by
  have hst : Step w w L L' (S0.wrs ws).γ (S0.wrs ws').γ :=
    ⟨fun B hB => ⟨himm B hB, rfl⟩, hcnt, fun B q o hq hγ hL => ⟨hpl B q o hq hγ hL, fun cur e fz hB => ⟨cur, hB, rfl⟩⟩, fun _ _ _ _ _ _ _ => rfl, fun B r o _ hB => hbox B r o hB⟩
  refine ⟨⟨hrel, M.stp.trans hst, M.mono.trans ⟨rfl, rfl, rfl, Nat.le_refl _, fun B hB => ⟨himm B hB, rfl⟩, fun B _ hB => ⟨hnone B hB, rfl⟩, fun B i o hB => hbox B _ o hB⟩, ?_, M.heap, M.inj0, fun B r o hB => hbox B r o (M.boxes B r o hB)⟩, hst, hK, hm⟩
  intro B q o hq hL
  exact M.rows B q o hq (hback B q o hq hL)
theorem relab_none {f : Place → Option Place} {B : Nat} (h : L B = none) : relab f L B = none := by simp [relab, h]
theorem isPl_cases {k : Key} (hk : k.isPl = true) : (∃ i, k = .s i) ∨ ∃ r c, k = .b r c := by
  cases k with
  | s i => exact .inl ⟨i, rfl⟩
  | b r c => exact .inr ⟨r, c, rfl⟩
  | _ => simp [Key.isPl] at hk
def Place.rest (pl q : Place) : List (Nat × Nat) := q.p.drop pl.p.length
theorem Place.rest_app (pl : Place) (r : List (Nat × Nat)) : pl.rest (pl.app r) = r := by simp [Place.rest, Place.app]
open Classical in
noncomputable def cellTo (pl : Place) (m j : Nat) (sel : List (Nat × Nat) → Bool) : Place → Option Place := fun q =>
  if Under pl q then (if sel (pl.rest q) = true then some ⟨.h m, j, pl.rest q⟩ else none)
  else if q.k = .h m ∧ q.j = j then (if sel q.p = true then none else some q) else some q
theorem Under.eq {pl q : Place} (h : Under pl q) : q = pl.app (pl.rest q) := by
  obtain ⟨r, rfl⟩ := h
  rw [Place.rest_app]
theorem cellTo_fix {pl : Place} {m j : Nat} {sel : List (Nat × Nat) → Bool} {q : Place} (h1 : ¬ Under pl q) (h2 : ¬ (q.k = .h m ∧ q.j = j)) : cellTo pl m j sel q = some q := by
  unfold cellTo; rw [if_neg h1, if_neg h2]
theorem cellTo_mov {pl : Place} {m j : Nat} {sel : List (Nat × Nat) → Bool} {q : Place} (h1 : Under pl q) (h2 : sel (pl.rest q) = true) : cellTo pl m j sel q = some ⟨.h m, j, pl.rest q⟩ := by
  unfold cellTo; rw [if_pos h1, if_pos h2]
theorem cellTo_stay {pl : Place} {m j : Nat} {sel : List (Nat × Nat) → Bool} {q : Place} (h1 : ¬ Under pl q) (h2 : q.k = .h m ∧ q.j = j) (h3 : sel q.p = false) : cellTo pl m j sel q = some q := by
  unfold cellTo; rw [if_neg h1, if_pos h2, if_neg (by simp [h3])]
theorem cellTo_cases {pl : Place} {m j : Nat} {sel : List (Nat × Nat) → Bool} {q t : Place} (h : cellTo pl m j sel q = some t) :
    (Under pl q ∧ sel (pl.rest q) = true ∧ t = ⟨.h m, j, pl.rest q⟩) ∨ (¬ Under pl q ∧ (q.k = .h m ∧ q.j = j) ∧ sel q.p = false ∧ t = q) ∨ (¬ Under pl q ∧ ¬ (q.k = .h m ∧ q.j = j) ∧ t = q) := by
  unfold cellTo at h
  by_cases hu : Under pl q
  · rw [if_pos hu] at h
    by_cases hs : sel (pl.rest q) = true
    · rw [if_pos hs] at h; exact .inl ⟨hu, hs, by simpa using h.symm⟩
    · rw [if_neg hs] at h; cases h
  · rw [if_neg hu] at h
    by_cases hm : q.k = .h m ∧ q.j = j
    · rw [if_pos hm] at h
      by_cases hs : sel q.p = true
      · rw [if_pos hs] at h; cases h
      · rw [if_neg hs] at h; exact .inr (.inl ⟨hu, hm, by simpa using hs, by simpa using h.symm⟩)
    · rw [if_neg hm] at h; exact .inr (.inr ⟨hu, hm, by simpa using h.symm⟩)
theorem cellTo_inj (pl : Place) (m j : Nat) (sel : List (Nat × Nat) → Bool) {q q' t : Place} (h1 : cellTo pl m j sel q = some t) (h2 : cellTo pl m j sel q' = some t) : q = q' := by
  rcases cellTo_cases h1 with ⟨a1, a2, a3⟩ | ⟨a1, a2, a3, a4⟩ | ⟨a1, a2, a3⟩ <;> rcases cellTo_cases h2 with ⟨b1, b2, b3⟩ | ⟨b1, b2, b3, b4⟩ | ⟨b1, b2, b3⟩
  · rw [a3] at b3
    simp only [Place.mk.injEq, true_and] at b3
    rw [a1.eq, b1.eq, b3]
  · rw [← b4, a3] at b3
    simp only at b3
    rw [a2] at b3; cases b3
  · exact absurd (by rw [← b3, a3]; exact ⟨rfl, rfl⟩) b2
  · rw [← a4, b3] at a3
    simp only at a3
    rw [b2] at a3; cases a3
  · rw [← a4, ← b4]
  · exact absurd (by rw [← b3, a4]; exact a2) b2
  · exact absurd (by rw [← a3, b3]; exact ⟨rfl, rfl⟩) a2
  · exact absurd (by rw [← a3, b4]; exact b2) a2
  · rw [← a3, ← b3]
theorem cellTo_back {pl : Place} {m j : Nat} {sel : List (Nat × Nat) → Bool} {q t : Place} (h1 : cellTo pl m j sel q = some t) (h2 : ¬ (t.k = .h m ∧ t.j = j)) : q = t ∧ ¬ Under pl q := by
  rcases cellTo_cases h1 with ⟨a1, a2, a3⟩ | ⟨a1, a2, a3, a4⟩ | ⟨a1, a2, a3⟩
  · exact absurd (by rw [a3]; exact ⟨rfl, rfl⟩) h2
  · exact absurd (by rw [a4]; exact a2) h2
  · exact ⟨a3.symm, a1⟩
theorem Mid.handOn (M : Mid nm N S0 w0 L0 ws a w L) {m j : Nat} {pl : Place} (hk : pl.k.isPl = true) {sz : Nat} {rows : List (List D)} {x : D} (b : List (Nat × Nat) → Bool)
    (hE : ((S0.wrs ws).E pl.k).cells[pl.j]? = some (.d x)) (hn : navD x pl.p = some (.sl .own sz rows)) :
    Out nm N S0 w0 L0 ws (setWr ws pl.k (killAt ((S0.wrs ws).E pl.k) pl x)) a w L (relab (cellTo pl m j b) L) (fun q => ¬ (q.k = .h m ∧ q.j = j)) m := by
  have hplh : pl.k ≠ .h m := fun e => by rw [e] at hk; simp [Key.isPl] at hk
  have hri : RowInj (relab (cellTo pl m j b) L) := relab_inj M.rel.rowInj (fun q q' t B B' o o' h1 h2 _ _ => cellTo_inj pl m j b h1 h2)
  have hnh : ∀ {q : Place}, q.k.isPl = true → ¬ (q.k = .h m ∧ q.j = j) := fun hq h => by rw [h.1] at hq; simp [Key.isPl] at hq
  have hrel : Rel nm N ((S0.wrs ws).wr { k := pl.k, v := killAt ((S0.wrs ws).E pl.k) pl x }) a w (relab (cellTo pl m j b) L) := by
    refine M.rel.setCellL (isPl_cases hk) hE (by simp) (fun B hB => relab_imm.2 hB) ?_ ?_ (fun B r o => relab_box) (fun B l hB => relab_dom hB) hri ?_
    · intro B q o hq hqp hL
      exact relab_of_row hL (cellTo_fix (fun h => hq h.key.1) (hnh hqp))
    · intro B q o hq hqj hL
      exact relab_of_row hL (cellTo_fix (fun h => hqj h.key.2) (hnh (by rw [hq]; exact hk)))
    · intro u hu
      cases hu with
      | d hd =>
        refine .d ?_
        have hap : (⟨pl.k, pl.j, []⟩ : Place).app pl.p = pl := Place.app_self pl
        refine RepD.subst pl.p hd hn (fun B hB => ⟨relab_imm.2 hB, rfl⟩) ?_ ?_ rfl
        · intro B' q o' h1 h2 h3
          rw [hap] at h2
          exact relab_of_row h3 (cellTo_fix h2 (hnh (by rw [h1.key.1]; exact hk)))
        · intro u' hu'
          exact .plain (.dead hu'.oneCell)
  refine Out.of_relab M hrel (fun k => St.γ_wr_le _ _ k) (fun B hB => relab_imm.2 hB) (fun B hB => relab_none hB) (fun B r o hB => relab_box.2 hB) ?_ ?_ ?_ ?_
  · intro B q o hq hγ hL
    have : q.k ≠ pl.k := by
      intro e
      rw [e] at hγ
      simp only [setWr, St.wrs, γ_bump, bump, if_true] at hγ
      omega
    exact relab_of_row hL (cellTo_fix (fun h => this h.key.1) (hnh hq))
  · intro B q o hq hL
    obtain ⟨q0, h1, h2⟩ := relab_row hL
    have := (cellTo_back h2 (hnh hq)).1
    rwa [this] at h1
  · intro B q o hq hK hL
    refine relab_of_row hL (cellTo_fix (fun h => ?_) hK)
    rw [h.key.1, hk] at hq; cases hq
  · intro B q o hq hqm hL
    obtain ⟨q0, h1, h2⟩ := relab_row hL
    have := (cellTo_back h2 (fun h => hqm h.1)).1
    rwa [this] at h1
theorem Under.rest_sub {pl q : Place} (h : Under pl q) (i c : Nat) : pl.rest (q.sub i c) = pl.rest q ++ [(i, c)] := by
  obtain ⟨r, rfl⟩ := h
  rw [← Place.app_sub, Place.rest_app, Place.rest_app]
theorem rest_self (pl : Place) : pl.rest pl = [] := by have := Place.rest_app pl []; rwa [Place.app_nil] at this
theorem rest_sub1 (pl : Place) (i c : Nat) : pl.rest (pl.sub i c) = [(i, c)] := by rw [(Under.refl pl).rest_sub, rest_self]; rfl
def selOf (b : Bool) (n0 : Nat) : List (Nat × Nat) → Bool
  | [] => b
  | (i, _) :: _ => decide (i < n0)
theorem move_under {pl : Place} {m j : Nat} {b : Bool} {n0 i c : Nat} {x : D} {u : Value} (hi : i < n0) (h : RepD w L (pl.sub i c) x u) :
    RepD w (relab (cellTo pl m j (selOf b n0)) L) ((⟨.h m, j, []⟩ : Place).sub i c) x u := by
  have := RepD.move (w' := w) (L' := relab (cellTo pl m j (selOf b n0)) L) (fun q => ⟨.h m, j, pl.rest q⟩) (fun q => Under pl q ∧ ∃ r, pl.rest q = (i, c) :: r)
    (fun q i' c' h => ⟨h.1.sub i' c', by obtain ⟨r, hr⟩ := h.2; rw [h.1.rest_sub, hr]; exact ⟨_, rfl⟩⟩)
    (fun q i c h => by rw [h.1.rest_sub]; rfl) (fun B hB => ⟨relab_imm.2 hB, rfl⟩)
    (fun B q o hq hL => ⟨relab_of_row hL (cellTo_mov hq.1 (by obtain ⟨r, hr⟩ := hq.2; rw [hr]; simp [selOf, hi])), rfl⟩) h ⟨(Under.refl pl).sub i c, [], rest_sub1 pl i c⟩
  rwa [rest_sub1] at this
theorem stay_under {pl : Place} (hp : pl.k.isPl = true) {m j : Nat} {b : Bool} {n0 i c : Nat} {x : D} {u : Value} (hi : ¬ i < n0) (h : RepD w L ((⟨.h m, j, []⟩ : Place).sub i c) x u) :
    RepD w (relab (cellTo pl m j (selOf b n0)) L) ((⟨.h m, j, []⟩ : Place).sub i c) x u := by
  refine RepD.move (w' := w) (L' := relab (cellTo pl m j (selOf b n0)) L) id (fun q => (q.k = .h m ∧ q.j = j) ∧ ∃ r, q.p = (i, c) :: r)
    (fun q i' c' h => ⟨h.1, by obtain ⟨r, hr⟩ := h.2; exact ⟨r ++ [(i', c')], by simp [Place.sub, hr]⟩⟩)
    (fun _ _ _ _ => rfl) (fun B hB => ⟨relab_imm.2 hB, rfl⟩)
    (fun B q o hq hL => ⟨relab_of_row hL (cellTo_stay (fun hu => ?_) hq.1 (by obtain ⟨r, hr⟩ := hq.2; rw [hr]; simp [selOf, hi])), rfl⟩) h ⟨⟨rfl, rfl⟩, [], rfl⟩
  rw [← hu.key.1, hq.1.1] at hp
  simp [Key.isPl] at hp
theorem Mid.moveOut (M : Mid nm N S0 w0 L0 ws a w L) {m j : Nat} {pl : Place} (hk : pl.k.isPl = true) {sz : Nat} {rows : List (List D)} {v : Value} {x : D}
    (hE : ((S0.wrs ws).E pl.k).cells[pl.j]? = some (.d x)) (hn : navD x pl.p = some (.sl .own sz rows)) (hV : ViewAt w0 L0 pl sz 0 rows.length v)
    (hr : rows ≠ []) :
    ∃ L', Out nm N S0 w0 L0 ws (setWr ws pl.k (killAt ((S0.wrs ws).E pl.k) pl x)) a w L L' (fun q => ¬ (q.k = .h m ∧ q.j = j)) m ∧
      RepC nm w L' (S0.wrs (setWr ws pl.k (killAt ((S0.wrs ws).E pl.k) pl x))).γ (.h m) j (.d (.sl .own sz rows)) v := by
  refine ⟨_, M.handOn hk (selOf true rows.length) hE hn, .d ?_⟩
  obtain ⟨u, hu⟩ := M.at_own hk hE hn
  rcases hV with ⟨h0, a0, rfl⟩ | ⟨B, o, cap, cur, e, fz, rfl, hsz, hL0, hB0, hfz, hle, hroom, _⟩
  · exact absurd (List.length_eq_zero_iff.1 h0) hr
  · have hL : L B = some (.row pl o) := by
      rcases hu.own_inv with ⟨h1, _⟩ | ⟨B', o', cap', cur', e', fz', val, _, _, hL', _⟩
      · exact absurd h1 hr
      · have hL0' := M.rows B' pl o' hk hL'
        obtain rfl := M.inj0 B' B pl o' o hL0' hL0
        obtain rfl : o' = o := by rw [hL0'] at hL0; simpa using hL0
        exact hL'
    have hB : w.heap[B]? = some (.cells cur e fz) := (M.heap B _ hL0).trans hB0
    simp only [Nat.zero_mul, Nat.add_zero] at hroom ⊢
    have hL1 : relab (cellTo pl m j (selOf true rows.length)) L B = some (.row ⟨.h m, j, []⟩ o) := by
      have := relab_of_row hL (cellTo_mov (m := m) (j := j) (sel := selOf true rows.length) (Under.refl pl) (by rw [rest_self]; rfl))
      rwa [rest_self] at this
    rcases hu.own_inv with ⟨rfl, _⟩ | ⟨B', o', cap', cur', e', fz', val, _, _, hL', hB', _, hlens, hcap', hroom', hval, hr, hu8⟩
    · exact absurd rfl hr
    · obtain rfl := M.rel.rowInj B' B pl o' o hL' hL
      obtain rfl : o' = o := by rw [hL'] at hL; simpa using hL
      obtain ⟨rfl, rfl, rfl⟩ : cur' = cur ∧ e' = e ∧ fz' = fz := by rw [hB'] at hB; simpa using hB
      refine .own val hsz hL1 hB hfz hlens hle hroom hval ?_ hu8
      intro i c x hx
      exact move_under (cellOf_lt hlens hx).1 (hr i c x hx)
theorem settle_rep (M : Mid nm N S0 w0 L0 ws a w L) {m j : Nat} {pl : Place} {g aa sz : Nat} {rows : List (List D)} {v : Value}
    (hc : LimC nm w0 L0 S0.γ w L (S0.wrs ws).γ m j (.appd pl g aa sz rows) v) {r : C × List Wr}
    (hr : (settle ws pl g aa sz rows).run S0 = some r) :
    ∃ L', Out nm N S0 w0 L0 ws r.2 a w L L' (fun q => ¬ (q.k = .h m ∧ q.j = j)) m ∧ RepC nm w L' (S0.wrs r.2).γ (.h m) j r.1 v := by
  simp only [settle, Q.run_bind] at hr
  cases ho : (ownAt ws pl g sz).run S0 with
  | none => simp [ho] at hr
  | some e =>
    obtain ⟨e, x, old⟩ := e
    obtain ⟨rfl, hg, hE, hn⟩ := ownAt_run ho
    simp only [ho, Option.bind_some, Q.run_bind, Q.run_at, Q.run_guard] at hr
    cases hgd : ((S0.get (.a pl.k)).g == aa && fresh ws pl.k) with
    | false => simp [hgd] at hr
    | true =>
      simp only [hgd, if_true, Option.bind_some, Q.run_pure, Option.some.injEq] at hr
      subst hr
      simp only [Bool.and_eq_true, beq_iff_eq] at hgd
      obtain ⟨g1, g2, _⟩ := fresh_γ (S := S0) hgd.2
      cases hc with
      | appd hv hh hgle hale hV =>
        have hA := hV (by rw [g1]; exact hg) (by rw [g2]; exact hgd.1.symm)
        rcases hA with ⟨rfl, a0, rfl⟩ | ⟨B, o, cap, cur, e, fz, n0, val, rfl, hsz, hL, hB, hfz, hlens, hcap, hroom, hval, hd, hu8⟩
        · exact ⟨_, M.handOn hh (selOf true 0) hE hn, .d .ownE⟩
        · have hin : ∀ (b : Bool) i c x, cellOf rows i c = some x → RepD w (relab (cellTo pl m j (selOf b n0)) L) ((⟨.h m, j, []⟩ : Place).sub i c) x (val i c) := by
            intro b i c x hx
            have h0 := hd i c x hx
            by_cases hi : i < n0
            · rw [if_pos hi] at h0; exact move_under hi h0
            · rw [if_neg hi] at h0; exact stay_under hh hi h0
          rcases hL with hL | hL
          · have hL1 : relab (cellTo pl m j (selOf true n0)) L B = some (.row ⟨.h m, j, []⟩ o) := by
              have := relab_of_row hL (cellTo_mov (m := m) (j := j) (sel := selOf true n0) (Under.refl pl) (by rw [rest_self]; rfl))
              rwa [rest_self] at this
            exact ⟨_, M.handOn hh (selOf true n0) hE hn, .d (.own val hsz hL1 hB hfz hlens hcap hroom hval (hin true) hu8)⟩
          · have hL1 : relab (cellTo pl m j (selOf false n0)) L B = some (.row ⟨.h m, j, []⟩ o) := by
              refine relab_of_row hL (cellTo_stay (fun hu => ?_) ⟨rfl, rfl⟩ rfl)
              have := hu.key.1; simp only at this; rw [← this] at hh; simp [Key.isPl] at hh
            exact ⟨_, M.handOn hh (selOf false n0) hE hn, .d (.own val hsz hL1 hB hfz hlens hcap hroom hval (hin false) hu8)⟩
theorem stAt_rep (M : Mid nm N S0 w0 L0 ws a w L) {m j : Nat} {P : Place} {c : C} {v : Value} (hc : LimC nm w0 L0 S0.γ w L (S0.wrs ws).γ m j c v) {r : C × List Wr}
    (hr : (stAt ws P c).run S0 = some r) :
    ∃ L', Out nm N S0 w0 L0 ws r.2 a w L L' (fun q => ¬ (q.k = .h m ∧ q.j = j)) m ∧ RepC nm w L' (S0.wrs r.2).γ (.h m) j r.1 v := by
  cases c with
  | appd pl g aa sz rows =>
    simp only [stAt] at hr
    split at hr
    · exact settle_rep M hc hr
    · exact st_rep M hc hr
  | _ => exact st_rep M hc hr
theorem stMv_rep (M : Mid nm N S0 w0 L0 ws a w L) {m j : Nat} {P : Place} {c : C} {v : Value} (hc : LimC nm w0 L0 S0.γ w L (S0.wrs ws).γ m j c v) {r : C × List Wr}
    (hr : (stMv ws P c).run S0 = some r) :
    ∃ L', Out nm N S0 w0 L0 ws r.2 a w L L' (fun q => ¬ (q.k = .h m ∧ q.j = j)) m ∧ RepC nm w L' (S0.wrs r.2).γ (.h m) j r.1 v := by
  cases c with
  | appd pl g aa sz rows =>
    simp only [stMv] at hr
    split at hr
    · exact settle_rep M hc hr
    · exact stAt_rep M hc hr
  | view pl g sz off len =>
    simp only [stMv, Q.run_bind] at hr
    cases ho : (ownAt ws pl g sz).run S0 with
    | none => simp [ho] at hr
    | some e =>
      obtain ⟨e, x, rows⟩ := e
      obtain ⟨rfl, hg, hE, hn⟩ := ownAt_run ho
      simp only [ho, Option.bind_some, Q.run_ite, Q.run_ask] at hr
      split at hr
      · rename_i hcond
        simp only [Bool.and_eq_true, beq_iff_eq, Bool.or_eq_true] at hcond
        obtain ⟨_, ⟨h1, h2⟩, h3⟩ := hcond
        simp only [Q.run_pure, Option.some.injEq] at hr
        subst hr
        cases hc with
        | view hv hh hgle hV =>
          refine M.moveOut hh hE hn (by have := hV hg; rwa [h1, h2] at this) ?_
          intro he
          simp [he] at h3
      · exact st_rep M hc hr
  | _ => exact st_rep M hc hr
end
end
section
section
variable {nm : FuncId → Option Nat} {N : Nat} {S0 : St} {w0 : World} {L0 : LabF} {ws : List Wr} {a : Act} {w : World} {L : LabF}
def toPl (k : Key) (m j : Nat) : Place → Option Place := fun q =>
  if q.k = .h m ∧ q.j = j then some ⟨k, 0, q.p⟩ else if q.k = k then none else some q
theorem toPl_fix {k : Key} {m j : Nat} {q : Place} (h1 : ¬ (q.k = .h m ∧ q.j = j)) (h2 : q.k ≠ k) : toPl k m j q = some q := by
  simp only [toPl]; rw [if_neg h1, if_neg h2]
theorem toPl_mov {k : Key} {m j : Nat} {q : Place} (h1 : q.k = .h m ∧ q.j = j) : toPl k m j q = some ⟨k, 0, q.p⟩ := by
  simp only [toPl]; rw [if_pos h1]
theorem toPl_back {k : Key} {m j : Nat} {q t : Place} (h : toPl k m j q = some t) (h2 : t.k ≠ k) : q = t ∧ ¬ (q.k = .h m ∧ q.j = j) := by
  simp only [toPl] at h
  split at h
  · simp only [Option.some.injEq] at h; exact absurd (by rw [← h]) h2
  · rename_i h1
    split at h
    · cases h
    · simp only [Option.some.injEq] at h; exact ⟨h, h1⟩
theorem toPl_inj {k : Key} {m j : Nat} {q q' t : Place} (h1 : toPl k m j q = some t) (h2 : toPl k m j q' = some t) : q = q' := by
  simp only [toPl] at h1 h2
  split at h1
  · rename_i a1
    simp only [Option.some.injEq] at h1
    split at h2
    · rename_i a2
      simp only [Option.some.injEq] at h2
      rw [← h1] at h2
      simp only [Place.mk.injEq, true_and] at h2
      cases q; cases q'; simp_all
    · split at h2
      · cases h2
      · rename_i a3
        simp only [Option.some.injEq] at h2
        exact absurd (by rw [h2, ← h1]) a3
  · split at h1
    · cases h1
    · rename_i a3
      simp only [Option.some.injEq] at h1
      split at h2
      · simp only [Option.some.injEq] at h2
        exact absurd (by rw [h1, ← h2]) a3
      · split at h2
        · cases h2
        · simp only [Option.some.injEq] at h2; rw [h1, h2]
theorem Rel.boxSet {S : St} (h : Rel nm N S a w L) {m j : Nat} {r : Root} {B o c : Nat} {x : C} {v : Value} (hB : L B = some (.box r o)) (hc : c < boxN (S.E (.r r)))
    (hr : r.isG = false) (hx : RepC nm w L S.γ (.h m) j x v) :
    ∃ L', Rel nm N (S.wr { k := .b r c, v := .one x }) a (w.setCell ⟨B, o + c, none⟩ v) L' ∧
      Keep w (w.setCell ⟨B, o + c, none⟩ v) L L' S.γ (S.wr { k := .b r c, v := .one x }).γ (fun q => ¬ (q.k = .h m ∧ q.j = j)) ∧
      Mono w (w.setCell ⟨B, o + c, none⟩ v) L L' ∧ L' B = some (.box r o) ∧ (∀ B q o, q.k.isPl = false → L' B = some (.row q o) → L B = some (.row q o)) := by
  obtain ⟨B', o', cur, e, fz, h1, h2, h3, h4⟩ := h.room r hr (by omega)
  obtain rfl := h.boxInj B' B r o' o h1 hB
  obtain rfl : o' = o := by rw [h1] at hB; simpa using hB
  have hne : ∀ {B2 l}, L B2 = some l → (∀ r o, l ≠ .box r o) → (w.setCell ⟨B', o' + c, none⟩ v).heap[B2]? = w.heap[B2]? := by
    intro B2 l hl hnb
    refine heap_setCell_ne _ _ _ _ ?_
    rintro rfl
    rw [hB] at hl
    simp only [Option.some.injEq] at hl
    exact hnb _ _ hl.symm
  have hplfix : ∀ {q : Place}, q.k.isPl = true → q.k ≠ .b r c → toPl (.b r c) m j q = some q := fun hq hk =>
    toPl_fix (fun h => by rw [h.1] at hq; simp [Key.isPl] at hq) hk
  have hst : Step w (w.setCell ⟨B', o' + c, none⟩ v) L (relab (toPl (.b r c) m j) L) S.γ (S.wr { k := .b r c, v := .one x }).γ := by
    refine ⟨fun B hB => ⟨relab_imm.2 hB, hne hB (by simp)⟩, S.γ_wr_le _, ?_, fun B q o _ _ _ hB => hne hB (by simp), fun B r o _ hB => relab_box.2 hB⟩
    intro B q o hq hγ hL
    rw [γ_bump] at hγ
    exact ⟨relab_of_row hL (hplfix hq (bump_ne hγ)), fun cur e fz hB => ⟨cur, (hne hL (by simp)).trans hB, rfl⟩⟩
  refine ⟨relab (toPl (.b r c) m j) L, ?_, ⟨hst, ?_⟩, ?_, relab_box.2 hB, ?_⟩
  · refine h.write { k := .b r c, v := .one x } rfl h.defers (fun _ _ => rfl) hst ?_ ?_ ?_ ?_ ?_ ?_
    · intro B q o hq hqp hL
      exact ⟨relab_of_row hL (hplfix hqp hq), hne hL (by simp)⟩
    · intro B2 r2 o2 _ hL
      refine ⟨relab_box.2 hL, fun cur2 e2 fz2 hB2 => ?_⟩
      by_cases he : B2 = B'
      · subst he
        rw [hB] at hL
        simp only [Option.some.injEq, Lab.box.injEq] at hL
        obtain ⟨rfl, rfl⟩ := hL
        refine ⟨cur2.setIfInBounds (o' + c) v, heap_setCell_eq w B2 _ v hB2, by simp, ?_⟩
        intro c' hc'
        rw [Array.getElem?_setIfInBounds_ne]
        intro e; exact hc' (by rw [show c = c' by omega])
      · exact ⟨cur2, (heap_setCell_ne _ _ _ _ he).trans hB2, rfl, fun _ _ => rfl⟩
    · refine ⟨x, rfl, fun hxd => ⟨hc, ?_⟩⟩
      have hrep : RepC nm (w.setCell ⟨B', o' + c, none⟩ v) (relab (toPl (.b r c) m j) L) (S.wr { k := .b r c, v := .one x }).γ (.b r c) 0 x v := by
        refine hx.step hst ?_
        intro B q o h1 h2 hL
        exact ⟨relab_of_row hL (toPl_mov ⟨h1, h2⟩), hne hL (by simp)⟩
      have hex : ∃ B o cur e fz v', relab (toPl (.b r c) m j) L B = some (.box r o) ∧ (w.setCell ⟨B', o' + c, none⟩ v).heap[B]? = some (.cells cur e fz) ∧ unfroz cur.size fz ∧ cur[o + c]? = some v' ∧
          RepC nm (w.setCell ⟨B', o' + c, none⟩ v) (relab (toPl (.b r c) m j) L) (S.wr { k := .b r c, v := .one x }).γ (.b r c) 0 x v' ∧ BldOk x B o c e cur.size v' := by
        refine ⟨B', o', _, e, fz, v, relab_box.2 hB, heap_setCell_eq w B' _ v h2, by simpa using h3, ?_, hrep, .of hx.nbld⟩
        simp only [Array.getElem?_setIfInBounds, if_true]
        rw [if_pos (by omega)]
      cases r with
      | g i => exact ⟨v, hrep⟩
      | e i => exact hex
      | l i => exact hex
    · intro B2 l hl
      obtain ⟨l0, h0⟩ := relab_dom hl
      have := h.dom B2 l0 h0
      simpa using this
    · exact relab_inj h.rowInj (fun q q' t B B' o o' h1 h2 _ _ => toPl_inj h1 h2)
    · intro B1 B2 r1 o1 o2 g1 g2
      exact h.boxInj B1 B2 r1 o1 o2 (relab_box.1 g1) (relab_box.1 g2)
  · intro B q o hq hK hL
    refine ⟨relab_of_row hL (toPl_fix hK (fun e => ?_)), hne hL (by simp)⟩
    rw [e] at hq; simp [Key.isPl] at hq
  · refine ⟨rfl, rfl, rfl, by simp, fun B hB => ⟨relab_imm.2 hB, hne hB (by simp)⟩, ?_, fun B i o hB => relab_box.2 hB⟩
    intro B2 _ hn
    refine ⟨relab_none hn, heap_setCell_ne _ _ _ _ ?_⟩
    rintro rfl
    rw [hB] at hn; cases hn
  · intro B2 q o hq hL
    obtain ⟨q0, g1, g2⟩ := relab_row hL
    have := (toPl_back g2 (fun e => by rw [e] at hq; simp [Key.isPl] at hq)).1
    rwa [this] at g1
theorem Keep.trans {w1 w2 w3 : World} {L1 L2 L3 : LabF} {γ1 γ2 γ3 : Key → Nat} {K : Place → Prop} (h : Keep w1 w2 L1 L2 γ1 γ2 K) (k : Keep w2 w3 L2 L3 γ2 γ3 K) : Keep w1 w3 L1 L3 γ1 γ3 K :=
  ⟨h.stp.trans k.stp, fun B q o h1 h2 h3 => ⟨(k.h B q o h1 h2 (h.h B q o h1 h2 h3).1).1, (k.h B q o h1 h2 (h.h B q o h1 h2 h3).1).2.trans (h.h B q o h1 h2 h3).2⟩⟩
theorem Keep.weaken {w1 w2 : World} {L1 L2 : LabF} {γ1 γ2 : Key → Nat} {K K' : Place → Prop} (h : Keep w1 w2 L1 L2 γ1 γ2 K) (hK : ∀ q, K' q → K q) : Keep w1 w2 L1 L2 γ1 γ2 K' :=
  ⟨h.stp, fun B q o h1 h2 h3 => h.h B q o h1 (hK q h2) h3⟩
theorem Rel.boxSets {m : Nat} {r : Root} (hr : r.isG = false) {B o : Nat} : ∀ (cs : List C) (vs : List Value) (j0 c0 : Nat) {S : St} {ws : List Wr} {w : World} {L : LabF} (h : Rel nm N (S.wrs ws) a w L)
    (hB : L B = some (.box r o)) (hl : cs.length = vs.length) (hc : c0 + cs.length ≤ boxN ((S.wrs ws).E (.r r)))
    (hx : ∀ j x v, cs[j]? = some x → vs[j]? = some v → RepC nm w L (S.wrs ws).γ (.h m) (j0 + j) x v),
    ∃ L', Rel nm N (S.wrs (cellWrs r c0 cs ws)) a (w.setCells B (o + c0) vs) L' ∧ Mono w (w.setCells B (o + c0) vs) L L' ∧ L' B = some (.box r o) ∧
      (∀ B q o, q.k.isPl = false → L' B = some (.row q o) → L B = some (.row q o))
  | [], vs, j0, c0, S, ws, w, L, h, hB, hl, hc, hx => by
    have : vs = [] := by simpa using hl.symm
    subst this
    exact ⟨L, h, Mono.refl _ _, hB, fun _ _ _ _ h => h⟩
  | x :: cs, [], j0, c0, S, ws, w, L, h, hB, hl, hc, hx => by simp at hl
  | x :: cs, v :: vs, j0, c0, S, ws, w, L, h, hB, hl, hc, hx => by
    simp only [List.length_cons] at hc hl
    obtain ⟨L1, h1, k1, m1, b1, f1⟩ := h.boxSet hB (c := c0) (by omega) hr (hx 0 x v rfl rfl)
    have hE : ((S.wrs ({ k := .b r c0, v := .one x } :: ws)).E (.r r)) = (S.wrs ws).E (.r r) := by
      simp only [St.wrs, St.E_wr]; simp
    obtain ⟨L2, h2, m2, b2, f2⟩ := Rel.boxSets hr cs vs (j0 + 1) (c0 + 1) (S := S) (ws := { k := .b r c0, v := .one x } :: ws) h1 b1 (by omega) (by rw [hE]; omega) (by
      intro j y u hy hu
      have := (hx (j + 1) y u (by simpa using hy) (by simpa using hu)).keep k1 (fun p => by simp)
      rwa [show j0 + 1 + j = j0 + (j + 1) by omega])
    refine ⟨L2, h2, m1.trans m2, b2, fun B q o hq hL => f1 B q o hq (f2 B q o hq hL)⟩
theorem cellWrs_E (S : St) (r : Root) : ∀ (cs : List C) (c0 : Nat) (ws : List Wr) (k : Key),
    (∀ c x, k = .b r (c0 + c) → cs[c]? = some x → (S.wrs (cellWrs r c0 cs ws)).E k = .one x) ∧
    ((∀ c, c < cs.length → k ≠ .b r (c0 + c)) → (S.wrs (cellWrs r c0 cs ws)).E k = (S.wrs ws).E k ∧ (S.wrs (cellWrs r c0 cs ws)).γ k = (S.wrs ws).γ k) ∧
    (∀ c, c < cs.length → k = .b r (c0 + c) → (S.wrs ws).γ k < (S.wrs (cellWrs r c0 cs ws)).γ k) ∧ (S.wrs ws).γ k ≤ (S.wrs (cellWrs r c0 cs ws)).γ k
  | [], c0, ws, k => ⟨fun c x _ h => by simp at h, fun _ => ⟨rfl, rfl⟩, fun c h => by simp at h, Nat.le_refl _⟩
  | x :: cs, c0, ws, k => by
    obtain ⟨h1, h2, h3, h4⟩ := cellWrs_E S r cs (c0 + 1) ({ k := .b r c0, v := .one x } :: ws) k
    have hle : (S.wrs ws).γ k ≤ (S.wrs ({ k := .b r c0, v := .one x } :: ws)).γ k := St.γ_wr_le _ _ k
    simp only [cellWrs]
    refine ⟨?_, ?_, ?_, Nat.le_trans hle h4⟩
    · intro c y hk hy
      cases c with
      | zero =>
        simp only [List.getElem?_cons_zero, Option.some.injEq] at hy
        subst hy
        rw [(h2 (fun c' _ e => by rw [hk] at e; simp only [Key.b.injEq, true_and] at e; omega)).1]
        simp only [St.wrs, St.E_wr, hk, Nat.add_zero, if_true]
      | succ c => exact h1 c y (by rw [hk, show c0 + (c + 1) = c0 + 1 + c by omega]) (by simpa using hy)
    · intro hne
      obtain ⟨g1, g2⟩ := h2 (fun c hc e => hne (c + 1) (by simpa using hc) (by rw [e, show c0 + (c + 1) = c0 + 1 + c by omega]))
      have h0 : (Key.b r c0) ≠ k := fun e => hne 0 (by simp) (by rw [← e]; rfl)
      rw [g1, g2]
      simp only [St.wrs, St.E_wr, St.γ_wr, h0, if_false]
      trivial
    · intro c hc hk
      cases c with
      | zero =>
        refine Nat.lt_of_lt_of_le ?_ h4
        simp only [St.wrs, St.γ_wr, hk, Nat.add_zero, if_true]
        simp
      | succ c =>
        exact Nat.lt_of_le_of_lt hle (h3 c (by simpa using hc) (by rw [hk, show c0 + (c + 1) = c0 + 1 + c by omega]))
def toBox (r : Root) (n m : Nat) : Place → Option Place := fun q =>
  if q.k = .h m then (if q.j < n then some ⟨.b r q.j, 0, q.p⟩ else none)
  else match q.k with
    | .b r' c => if r' = r ∧ c < n then none else some q
    | .s _ => some q
    | _ => none
theorem toBox_back {r : Root} {n m : Nat} {q t : Place} (h : toBox r n m q = some t) : (q.k = .h m ∧ q.j < n ∧ t = ⟨.b r q.j, 0, q.p⟩) ∨ (q.k.isPl = true ∧ t = q ∧ ∀ c, c < n → q.k ≠ .b r c) := by
  unfold toBox at h
  split at h
  · rename_i h1
    split at h
    · rename_i h2
      simp only [Option.some.injEq] at h
      exact .inl ⟨h1, h2, h.symm⟩
    · cases h
  · rename_i h1
    split at h
    · rename_i r' c hk
      split at h
      · cases h
      · rename_i h2
        simp only [Option.some.injEq] at h
        refine .inr ⟨by rw [hk]; rfl, h.symm, ?_⟩
        intro c' hc' e
        rw [hk] at e
        simp only [Key.b.injEq] at e
        exact h2 ⟨e.1, by omega⟩
    · rename_i i hk
      simp only [Option.some.injEq] at h
      exact .inr ⟨by rw [hk]; rfl, h.symm, fun c _ e => by rw [hk] at e; cases e⟩
    · cases h
theorem toBox_fix {r : Root} {n m : Nat} {q : Place} (h : q.k.isPl = true) (hn : ∀ c, c < n → q.k ≠ .b r c) : toBox r n m q = some q := by
  unfold toBox
  rw [if_neg (fun e => by rw [e] at h; simp [Key.isPl] at h)]
  obtain ⟨k, i, p⟩ := q
  cases k with
  | s i => rfl
  | b r' c =>
    simp only
    rw [if_neg]
    rintro ⟨rfl, hc⟩
    exact hn c hc rfl
  | _ => simp [Key.isPl] at h
theorem toBox_mov {r : Root} {n m : Nat} {q : Place} (h : q.k = .h m) (hj : q.j < n) : toBox r n m q = some ⟨.b r q.j, 0, q.p⟩ := by
  unfold toBox; rw [if_pos h, if_pos hj]
def boxL (r : Root) (n m : Nat) (w : World) (L : LabF) : LabF := fun B =>
  if B = w.heap.size then some (.box r 0) else
  match L B with
  | some (.box r' o) => if r' = r then none else some (.box r' o)
  | _ => relab (toBox r n m) L B
theorem boxL_new {r : Root} {n m : Nat} : boxL r n m w L w.heap.size = some (.box r 0) := by simp [boxL]
theorem boxL_row {r : Root} {n m B o : Nat} {q q' : Place} (hne : B ≠ w.heap.size) (h : L B = some (.row q o)) (hf : toBox r n m q = some q') : boxL r n m w L B = some (.row q' o) := by
  unfold boxL; rw [if_neg hne]; simp only [h]; exact relab_of_row h hf
theorem boxL_imm {r : Root} {n m B : Nat} (hne : B ≠ w.heap.size) (h : L B = some .imm) : boxL r n m w L B = some .imm := by
  unfold boxL; rw [if_neg hne]; simp only [h]; exact relab_imm.2 h
theorem boxL_none {r : Root} {n m B : Nat} (hne : B ≠ w.heap.size) (h : L B = none) : boxL r n m w L B = none := by
  unfold boxL; rw [if_neg hne]; simp only [h]; exact relab_none h
theorem boxL_box {r : Root} {n m B o : Nat} {r' : Root} (hne : B ≠ w.heap.size) (h : L B = some (.box r' o)) (hr : r' ≠ r) : boxL r n m w L B = some (.box r' o) := by
  unfold boxL; rw [if_neg hne]; simp only [h, hr, if_false]
theorem boxL_back {r : Root} {n m B : Nat} {l : Lab} (h : boxL r n m w L B = some l) : (B = w.heap.size ∧ l = .box r 0) ∨
    (B ≠ w.heap.size ∧ ((l = .imm ∧ L B = some .imm) ∨ (∃ r' o, l = .box r' o ∧ r' ≠ r ∧ L B = some (.box r' o)) ∨ ∃ q q' o, l = .row q' o ∧ L B = some (.row q o) ∧ toBox r n m q = some q')) := by
  unfold boxL at h
  split at h
  · rename_i he
    simp only [Option.some.injEq] at h
    exact .inl ⟨he, h.symm⟩
  · rename_i he
    refine .inr ⟨he, ?_⟩
    split at h
    · rename_i r' o hL
      split at h
      · cases h
      · rename_i hr
        simp only [Option.some.injEq] at h
        exact .inr (.inl ⟨r', o, h.symm, hr, hL⟩)
    · rename_i hnb
      cases l with
      | imm => exact .inl ⟨rfl, relab_imm.1 h⟩
      | row q o => obtain ⟨q0, g1, g2⟩ := relab_row h; exact .inr (.inr ⟨q0, q, o, rfl, g1, g2⟩)
      | box r' o => exact absurd (relab_box.1 h) (hnb r' o)
theorem boxN_sizeV (n : Nat) : boxN (sizeV n) = n := by simp [boxN, sizeV]
theorem Rel.newBox {S : St} {ws : List Wr} (h : Rel nm N (S.wrs ws) a w L) {m : Nat} {r : Root} {cs : List C} {vs : Array Value} {e : TypeId} (hr : r.isG = false) (hre : ∀ i, r ≠ .e i)
    (hl : cs.length = vs.size) (hn : boxN ((S.wrs ws).E (.r r)) = 0 ∨ boxN ((S.wrs ws).E (.r r)) = cs.length)
    (hx : ∀ (j : Nat) x v, cs[j]? = some x → vs[j]? = some v → RepC nm w L (S.wrs ws).γ (.h m) j x v) :
    Rel nm N (S.wrs (cellWrs r 0 cs ({ k := .r r, v := sizeV cs.length } :: ws))) a (w.alloc (.cells vs e)) (boxL r cs.length m w L) ∧
      Mono w (w.alloc (.cells vs e)) L (boxL r cs.length m w L) ∧ NoH (boxL r cs.length m w L) := by
  have hnew := h.dom.new
  have hlt : ∀ {B l}, L B = some l → B ≠ w.heap.size := fun {B l} hB e => by rw [e, hnew] at hB; cases hB
  have hheap : ∀ {B l}, L B = some l → (w.alloc (.cells vs e)).heap[B]? = w.heap[B]? := fun hB => heap_alloc_lt w _ (hlt hB)
  have hw := fun k => cellWrs_E S r cs 0 ({ k := .r r, v := sizeV cs.length } :: ws) k
  have hEr : ∀ r', (S.wrs (cellWrs r 0 cs ({ k := .r r, v := sizeV cs.length } :: ws))).E (.r r') = if r = r' then sizeV cs.length else (S.wrs ws).E (.r r') := by
    intro r'
    rw [((hw (.r r')).2.1 (fun c _ e => by cases e)).1]
    simp only [St.wrs, St.E_wr, Key.r.injEq]
  have hEs : ∀ i, (S.wrs (cellWrs r 0 cs ({ k := .r r, v := sizeV cs.length } :: ws))).E (.s i) = (S.wrs ws).E (.s i) := by
    intro i
    rw [((hw (.s i)).2.1 (fun c _ e => by cases e)).1]
    simp [St.wrs, St.E_wr]
  have hEb : ∀ r' c, (r' ≠ r ∨ cs.length ≤ c) → (S.wrs (cellWrs r 0 cs ({ k := .r r, v := sizeV cs.length } :: ws))).E (.b r' c) = (S.wrs ws).E (.b r' c) := by
    intro r' c hc
    rw [((hw (.b r' c)).2.1 (fun c' h1 e => by simp only [Key.b.injEq] at e; rcases hc with hc | hc; exact hc e.1; omega)).1]
    simp [St.wrs, St.E_wr]
  have hγle : ∀ k, (S.wrs ws).γ k ≤ (S.wrs (cellWrs r 0 cs ({ k := .r r, v := sizeV cs.length } :: ws))).γ k := fun k =>
    Nat.le_trans (St.γ_wr_le (S.wrs ws) { k := .r r, v := sizeV cs.length } k) (hw k).2.2.2
  have hγb : ∀ c, c < cs.length → (S.wrs ws).γ (.b r c) < (S.wrs (cellWrs r 0 cs ({ k := .r r, v := sizeV cs.length } :: ws))).γ (.b r c) := fun c hc =>
    Nat.lt_of_le_of_lt (St.γ_wr_le (S.wrs ws) { k := .r r, v := sizeV cs.length } (.b r c)) ((hw (.b r c)).2.2.1 c hc (by simp))
  have hγr : (S.wrs ws).γ (.r r) < (S.wrs (cellWrs r 0 cs ({ k := .r r, v := sizeV cs.length } :: ws))).γ (.r r) := by
    refine Nat.lt_of_lt_of_le ?_ (hw (.r r)).2.2.2
    simp only [St.wrs, St.γ_wr, if_true]
    simp
  have hst : Step w (w.alloc (.cells vs e)) L (boxL r cs.length m w L) (S.wrs ws).γ (S.wrs (cellWrs r 0 cs ({ k := .r r, v := sizeV cs.length } :: ws))).γ := by
    refine ⟨fun B hB => ⟨boxL_imm (hlt hB) hB, hheap hB⟩, hγle, ?_, fun B q o _ _ _ hB => hheap hB, ?_⟩
    · intro B q o hq hγ hL
      refine ⟨boxL_row (hlt hL) hL (toBox_fix hq ?_), fun cur e fz hc => ⟨cur, (hheap hL).trans hc, rfl⟩⟩
      intro c hc e
      rw [e] at hγ
      exact absurd hγ (Nat.ne_of_gt (hγb c hc))
    · intro B r' o hγ hL
      refine boxL_box (hlt hL) hL ?_
      rintro rfl
      exact absurd hγ (Nat.ne_of_gt hγr)
  refine ⟨⟨h.size, h.defers, ?_, ?_, ?_, ?_, ?_, ?_, ?_, ?_⟩, ?_, ?_⟩
  · intro i
    rw [hEs]
    refine (h.slot i).step hst ?_
    intro B q o hq hL
    refine ⟨?_, hheap hL⟩
    rw [← hq, Place.at_self]
    exact boxL_row (hlt hL) hL (toBox_fix (by rw [hq]; rfl) (fun c _ e => by rw [hq] at e; cases e))
  · intro r' c x hE hxd
    by_cases hc : r' = r ∧ c < cs.length
    · obtain ⟨rfl, hc⟩ := hc
      have hx0 := (hw (.b r' c)).1 c cs[c] (by simp) (by simp [hc])
      rw [hE] at hx0
      simp only [V.one.injEq] at hx0
      have hrep : RepC nm (w.alloc (.cells vs e)) (boxL r' cs.length m w L) (S.wrs (cellWrs r' 0 cs ({ k := .r r', v := sizeV cs.length } :: ws))).γ (.b r' c) 0 x (vs[c]'(by omega)) := by
        refine (hx c x vs[c] (by rw [hx0]; simp [hc]) (by simp [← hl, hc])).step hst ?_
        intro B q o h1 h2 hL
        refine ⟨?_, hheap hL⟩
        have := boxL_row (hlt hL) hL (toBox_mov (r := r') (n := cs.length) h1 (by rw [h2]; exact hc))
        rwa [h2] at this
      have hex : ∃ B o cur e' fz v', boxL r' cs.length m w L B = some (.box r' o) ∧ (w.alloc (.cells vs e)).heap[B]? = some (.cells cur e' fz) ∧ unfroz cur.size fz ∧ cur[o + c]? = some v' ∧
          RepC nm (w.alloc (.cells vs e)) (boxL r' cs.length m w L) (S.wrs (cellWrs r' 0 cs ({ k := .r r', v := sizeV cs.length } :: ws))).γ (.b r' c) 0 x v' ∧ BldOk x B o c e' cur.size v' :=
        ⟨w.heap.size, 0, vs, e, (0, 0), _, boxL_new, heap_alloc_self w _, fun j _ => by simp, by simp [← hl, hc], hrep, .of (hx c x vs[c] (by rw [hx0]; simp [hc]) (by simp [← hl, hc])).nbld⟩
      cases r' with
      | g i => simp [Root.isG] at hr
      | e i => exact hex
      | l i => exact hex
    · rw [hEb r' c (by by_cases h1 : r' = r <;> simp_all)] at hE
      by_cases hrr : r' = r
      · subst hrr
        have hcl : cs.length ≤ c := by simpa using hc
        have := h.bound r' c (by rcases hn with hn | hn <;> rw [hn] <;> omega)
        rw [this] at hE
        simp only [V.one.injEq] at hE
        exact absurd hE.symm hxd
      · refine (h.cell r' c x hE hxd).step hst ?_ ?_
        · intro B q o hq hL
          exact ⟨boxL_row (hlt hL) hL (toBox_fix (by rw [hq]; rfl) (fun c' _ e => by rw [hq] at e; simp only [Key.b.injEq] at e; exact hrr e.1)), hheap hL⟩
        · intro B o hL
          exact ⟨boxL_box (hlt hL) hL hrr, fun cur e fz hc => ⟨cur, (hheap hL).trans hc, rfl, rfl⟩⟩
  · intro r' c
    by_cases hc : r' = r ∧ c < cs.length
    · obtain ⟨rfl, hc⟩ := hc
      exact ⟨cs[c], (hw (.b r' c)).1 c cs[c] (by simp) (by simp [hc])⟩
    · rw [hEb r' c (by by_cases h1 : r' = r <;> simp_all)]
      exact h.bone r' c
  · intro r' c hc
    rw [hEr] at hc
    by_cases hrr : r = r'
    · subst hrr
      simp only [if_true, boxN_sizeV] at hc
      rw [hEb r c (.inr hc)]
      exact h.bound r c (by rcases hn with hn | hn <;> rw [hn] <;> omega)
    · rw [if_neg hrr] at hc
      rw [hEb r' c (.inl (fun e => hrr e.symm))]
      exact h.bound r' c hc
  · intro r' hg hb
    rw [hEr] at hb ⊢
    by_cases hrr : r = r'
    · subst hrr
      simp only [if_true, boxN_sizeV] at hb ⊢
      exact ⟨w.heap.size, 0, vs, e, (0, 0), boxL_new, heap_alloc_self w _, fun j _ => by simp, by omega⟩
    · rw [if_neg hrr] at hb ⊢
      obtain ⟨B, o, cur, e', fz, h1, h2, h3, h4⟩ := h.room r' hg hb
      exact ⟨B, o, cur, e', fz, boxL_box (hlt h1) h1 (fun e => hrr e.symm), (hheap h1).trans h2, h3, h4⟩
  · intro B l hB
    have hz : (w.alloc (.cells vs e)).heap.size = w.heap.size + 1 := by simp
    rw [hz]
    rcases boxL_back hB with ⟨rfl, _⟩ | ⟨hne, hB'⟩
    · exact Nat.lt_succ_self _
    · refine Nat.lt_succ_of_lt ?_
      rcases hB' with ⟨_, h1⟩ | ⟨r', o, _, _, h1⟩ | ⟨q, q', o, _, h1, _⟩ <;> exact h.dom B _ h1
  · intro B B' pl o o' h1 h2
    rcases boxL_back h1 with ⟨_, he⟩ | ⟨_, ⟨he, _⟩ | ⟨_, _, he, _⟩ | ⟨q, t, o1, he, g1, g2⟩⟩
    · cases he
    · cases he
    · cases he
    rcases boxL_back h2 with ⟨_, he'⟩ | ⟨_, ⟨he', _⟩ | ⟨_, _, he', _⟩ | ⟨q', t', o1', he', g1', g2'⟩⟩
    · cases he'
    · cases he'
    · cases he'
    simp only [Lab.row.injEq] at he he'
    obtain ⟨rfl, rfl⟩ := he
    obtain ⟨rfl, rfl⟩ := he'
    have : q = q' := by
      rcases toBox_back g2 with ⟨a1, a4, a2⟩ | ⟨a1, a2, a3⟩ <;> rcases toBox_back g2' with ⟨b1, b4, b2⟩ | ⟨b1, b2, b3⟩
      · rw [a2] at b2
        simp only [Place.mk.injEq, Key.b.injEq, true_and] at b2
        cases q; cases q'; simp_all
      · exact absurd (by rw [← b2, a2]) (b3 q.j a4)
      · exact absurd (by rw [← a2, b2]) (a3 q'.j b4)
      · rw [← a2, ← b2]
    subst this
    exact h.rowInj B B' q o o' g1 g1'
  · intro B B' r' o o' h1 h2
    rcases boxL_back h1 with ⟨rfl, he⟩ | ⟨_, ⟨he, _⟩ | ⟨r1, o1, he, hr1, g1⟩ | ⟨q, t, o1, he, g1, g2⟩⟩
    · simp only [Lab.box.injEq] at he
      rcases boxL_back h2 with ⟨rfl, he'⟩ | ⟨_, ⟨he', _⟩ | ⟨r1', o1', he', hr1', g1'⟩ | ⟨q', t', o1', he', g1', g2'⟩⟩
      · rfl
      · cases he'
      · simp only [Lab.box.injEq] at he'
        exact absurd (he'.1.symm.trans he.1) hr1'
      · cases he'
    · cases he
    · simp only [Lab.box.injEq] at he
      rcases boxL_back h2 with ⟨rfl, he'⟩ | ⟨_, ⟨he', _⟩ | ⟨r1', o1', he', hr1', g1'⟩ | ⟨q', t', o1', he', g1', g2'⟩⟩
      · simp only [Lab.box.injEq] at he'
        exact absurd (he.1.symm.trans he'.1) hr1
      · cases he'
      · simp only [Lab.box.injEq] at he'
        rw [← he.1] at g1
        rw [← he'.1] at g1'
        exact h.boxInj B B' r' o1 o1' g1 g1'
      · cases he'
    · cases he
  · refine ⟨rfl, rfl, rfl, by simp, fun B hB => ⟨boxL_imm (hlt hB) hB, hheap hB⟩, ?_, fun B i o hB => boxL_box (hlt hB) hB (fun e => hre i e.symm)⟩
    intro B hlt' hB
    have hne : B ≠ w.heap.size := by omega
    exact ⟨boxL_none hne hB, heap_alloc_lt w _ hne⟩
  · intro B q o hB
    rcases boxL_back hB with ⟨_, he⟩ | ⟨_, ⟨he, _⟩ | ⟨_, _, he, _⟩ | ⟨q0, t, o1, he, g1, g2⟩⟩
    · cases he
    · cases he
    · cases he
    · simp only [Lab.row.injEq] at he
      obtain ⟨rfl, rfl⟩ := he
      rcases toBox_back g2 with ⟨_, _, rfl⟩ | ⟨h1, rfl, _⟩
      · rfl
      · exact h1
end
end
section
section
variable {nm : FuncId → Option Nat} {N : Nat} {S0 : St} {w0 : World} {L0 : LabF} {ws : List Wr} {a : Act} {w : World} {L : LabF}
theorem V.setCell_self {x : V} {j : Nat} {c : C} (h : x.cells[j]? = some c) : x.setCell j c = x := by
  cases x with
  | one c0 =>
    cases j with
    | zero => simp only [V.cells, List.getElem?_cons_zero, Option.some.injEq] at h; simp [V.setCell, h]
    | succ j => simp [V.cells] at h
  | agg cs =>
    simp only [V.cells] at h
    simp only [V.setCell]
    congr 1
    obtain ⟨hj, rfl⟩ := List.getElem?_eq_some_iff.1 h
    exact List.set_getElem_self hj
  | tup vs => simp [V.cells] at h
theorem V.cells_setCell {x : V} {j : Nat} {c c' : C} (h : x.cells[j]? = some c) : (x.setCell j c').cells[j]? = some c' := by
  cases x with
  | one c0 =>
    cases j with
    | zero => simp [V.setCell, V.cells]
    | succ j => simp [V.cells] at h
  | agg cs =>
    simp only [V.cells] at h
    obtain ⟨hj, rfl⟩ := List.getElem?_eq_some_iff.1 h
    simp [V.setCell, V.cells, hj]
  | tup vs => simp [V.cells] at h
open Classical in
noncomputable def elL (t : Place) (m j : Nat) (L : LabF) : LabF := fun B =>
  match L B with
  | some (.row q o) => if q.k = .h m ∧ q.j = j then some (.row (t.app q.p) o) else if Under t q then none else some (.row q o)
  | x => x
theorem elL_imm {t : Place} {m j B : Nat} : elL t m j L B = some .imm ↔ L B = some .imm := by
  unfold elL
  split
  · rename_i q o hL
    rw [hL]
    split
    · simp
    · split <;> simp
  · rfl
theorem elL_box {t : Place} {m j B o : Nat} {r : Root} : elL t m j L B = some (.box r o) ↔ L B = some (.box r o) := by
  unfold elL
  split
  · rename_i q o' hL
    rw [hL]
    split
    · simp
    · split <;> simp
  · rfl
theorem elL_none {t : Place} {m j B : Nat} (h : L B = none) : elL t m j L B = none := by simp [elL, h]
theorem elL_dom {t : Place} {m j B : Nat} {l : Lab} (h : elL t m j L B = some l) : ∃ l0, L B = some l0 := by
  unfold elL at h
  split at h
  · rename_i q o hL; exact ⟨_, hL⟩
  · exact ⟨_, h⟩
theorem elL_keep {t : Place} {m j B o : Nat} {q : Place} (h : L B = some (.row q o)) (h1 : ¬ (q.k = .h m ∧ q.j = j)) (h2 : ¬ Under t q) : elL t m j L B = some (.row q o) := by
  simp only [elL, h]; rw [if_neg h1, if_neg h2]
theorem elL_mov {t : Place} {m j B o : Nat} {q : Place} (h : L B = some (.row q o)) (h1 : q.k = .h m ∧ q.j = j) : elL t m j L B = some (.row (t.app q.p) o) := by
  simp only [elL, h]; rw [if_pos h1]
theorem elL_back {t : Place} {m j B o : Nat} {q : Place} (h : elL t m j L B = some (.row q o)) :
    (∃ q0, L B = some (.row q0 o) ∧ (q0.k = .h m ∧ q0.j = j) ∧ q = t.app q0.p) ∨ (L B = some (.row q o) ∧ ¬ (q.k = .h m ∧ q.j = j) ∧ ¬ Under t q) := by
  unfold elL at h
  split at h
  · rename_i q0 o0 hL
    split at h
    · rename_i h1
      simp only [Option.some.injEq, Lab.row.injEq] at h
      exact .inl ⟨q0, by rw [hL, h.2], h1, h.1.symm⟩
    · rename_i h1
      split at h
      · cases h
      · rename_i h2
        simp only [Option.some.injEq, Lab.row.injEq] at h
        obtain ⟨rfl, rfl⟩ := h
        exact .inr ⟨hL, h1, h2⟩
  · rename_i hn
    exact absurd h (hn q o)
theorem elL_inj {t : Place} {m j : Nat} (h : RowInj L) : RowInj (elL t m j L) := by
  intro B B' pl o o' h1 h2
  rcases elL_back h1 with ⟨q, a1, a2, a3⟩ | ⟨a1, a2, a3⟩ <;> rcases elL_back h2 with ⟨q', b1, b2, b3⟩ | ⟨b1, b2, b3⟩
  · have := Place.app_inj (a3.symm.trans b3)
    have : q = q' := by cases q; cases q'; simp_all
    subst this
    exact h B B' q o o' a1 b1
  · exact absurd ⟨q.p, a3⟩ b3
  · exact absurd ⟨q'.p, b3⟩ a3
  · exact h B B' pl o o' a1 b1
theorem RepC.flatD {γ : Key → Nat} {k : Key} {j : Nat} {z : D} {v : Value} (h : RepC nm w L γ k j (.d z) v) (hf : z.flat = true) : RepP w L z v := by
  cases h with
  | d h =>
    cases h with
    | plain h => exact h
    | ownE => simp [D.flat] at hf
    | own => simp [D.flat] at hf
theorem γ_wr2 (S : St) (k : Key) (v : V) (kp : Bool) (k' : Key) :
    (S.wrs [{ k, v, keep := kp }, { k := .a k, v := V.dead }]).γ k' = if k' = .a k then S.γ k' + 1 else if k' = k ∧ kp = false then S.γ k' + 1 else S.γ k' := by
  have hka : ∀ k : Key, k ≠ .a k := by
    intro k
    induction k with
    | a k ih => intro e; simp only [Key.a.injEq] at e; exact ih e
    | _ => intro e; cases e
  simp only [St.wrs, St.γ_wr]
  by_cases h1 : k' = .a k
  · subst h1
    simp [hka k]
  · rw [if_neg h1]
    by_cases h2 : k = k'
    · subst h2
      cases kp <;> simp [Ne.symm h1]
    · simp [h2, Ne.symm h1, Ne.symm h2]
theorem Rel.elSet {S : St} (h : Rel nm N S a w L) {m j : Nat} {pl : Place} {B o i c sz : Nat} {x old z : D} {rows : List (List D)} {u : Value} (hk : pl.k.isPl = true)
    (hE : (S.E pl.k).cells[pl.j]? = some (.d x)) (hn : navD x pl.p = some (.sl .own sz rows)) (hc : cellOf rows i c = some old) (hB : L B = some (.row pl o))
    (hz : RepC nm w L S.γ (.h m) j (.d z) u) (hst8 : u8st z old = true) :
    ∃ L', Rel nm N (S.wrs [{ k := pl.k, v := (S.E pl.k).setCell pl.j (.d (setD x (pl.p ++ [(i, c)]) z)), keep := old.flat && z.flat }, { k := .a pl.k, v := V.dead }]) a (w.setCell ⟨B, o + i * sz + c, none⟩ u) L' ∧
      Keep w (w.setCell ⟨B, o + i * sz + c, none⟩ u) L L' S.γ (S.wrs [{ k := pl.k, v := (S.E pl.k).setCell pl.j (.d (setD x (pl.p ++ [(i, c)]) z)), keep := old.flat && z.flat }, { k := .a pl.k, v := V.dead }]).γ (fun q => ¬ (q.k = .h m ∧ q.j = j)) ∧
      Mono w (w.setCell ⟨B, o + i * sz + c, none⟩ u) L L' ∧ L' B = some (.row pl o) ∧ (∀ B q o, q.k.isPl = false → L' B = some (.row q o) → L B = some (.row q o)) := by
  have hne : ∀ {B2 l}, L B2 = some l → l ≠ .row pl o → (w.setCell ⟨B, o + i * sz + c, none⟩ u).heap[B2]? = w.heap[B2]? := by
    intro B2 l hl hnb
    refine heap_setCell_ne _ _ _ _ ?_
    rintro rfl
    rw [hB] at hl
    simp only [Option.some.injEq] at hl
    exact hnb hl.symm
  have hhm : ∀ {q : Place}, q.k.isPl = true → ¬ (q.k = .h m ∧ q.j = j) := fun hq h => by rw [h.1] at hq; simp [Key.isPl] at hq
  have hnu : ¬ Under (pl.sub i c) pl := Under.not_self
  have h1 : Rel nm N (S.wr { k := .a pl.k, v := V.dead }) a w L := h.kill (.a pl.k) (fun r e => by cases e)
  have hka : ∀ k : Key, k ≠ .a k := by
    intro k
    induction k with
    | a k ih => intro e; simp only [Key.a.injEq] at e; exact ih e
    | _ => intro e; cases e
  have hE1 : (S.wr { k := .a pl.k, v := V.dead }).E pl.k = S.E pl.k := by
    rw [St.E_wr]; simp [Ne.symm (hka pl.k)]
  have main : ∀ L', (∀ B, L' B = some .imm ↔ L B = some .imm) → (∀ B r o, L' B = some (.box r o) ↔ L B = some (.box r o)) → (∀ B, L B = none → L' B = none) → (∀ B l, L' B = some l → ∃ l0, L B = some l0) → RowInj L' →
      (∀ B q o, ¬ (q.k = .h m ∧ q.j = j) → ¬ Under (pl.sub i c) q → L B = some (.row q o) → L' B = some (.row q o)) →
      (∀ B q o, q.k.isPl = false → L' B = some (.row q o) → L B = some (.row q o)) →
      (((old.flat && z.flat) = true) → L' = L) →
      RepD (w.setCell ⟨B, o + i * sz + c, none⟩ u) L' (pl.sub i c) z u →
      Rel nm N (S.wrs [{ k := pl.k, v := (S.E pl.k).setCell pl.j (.d (setD x (pl.p ++ [(i, c)]) z)), keep := old.flat && z.flat }, { k := .a pl.k, v := V.dead }]) a (w.setCell ⟨B, o + i * sz + c, none⟩ u) L' ∧
      Keep w (w.setCell ⟨B, o + i * sz + c, none⟩ u) L L' S.γ (S.wrs [{ k := pl.k, v := (S.E pl.k).setCell pl.j (.d (setD x (pl.p ++ [(i, c)]) z)), keep := old.flat && z.flat }, { k := .a pl.k, v := V.dead }]).γ (fun q => ¬ (q.k = .h m ∧ q.j = j)) ∧
      Mono w (w.setCell ⟨B, o + i * sz + c, none⟩ u) L L' ∧ L' B = some (.row pl o) ∧ (∀ B q o, q.k.isPl = false → L' B = some (.row q o) → L B = some (.row q o)) := by
    intro L' himm hbox hnone hdm hri hkeep hback hflat hzd
    have himk : ImmKept w (w.setCell ⟨B, o + i * sz + c, none⟩ u) L L' := fun B2 hb => ⟨(himm B2).2 hb, hne hb (by simp)⟩
    have hpl : ∀ {B2 q o2}, q.k.isPl = true → ((S.wrs [{ k := pl.k, v := (S.E pl.k).setCell pl.j (.d (setD x (pl.p ++ [(i, c)]) z)), keep := old.flat && z.flat }, { k := .a pl.k, v := V.dead }]).γ q.k = S.γ q.k) →
        L B2 = some (.row q o2) → L' B2 = some (.row q o2) := by
      intro B2 q o2 hq hγ hL
      cases hf : (old.flat && z.flat) with
      | true => rw [hflat hf]; exact hL
      | false =>
        rw [γ_wr2, hf] at hγ
        refine hkeep B2 q o2 (hhm hq) (fun hu => ?_) hL
        have hqk : q.k = pl.k := hu.key.1
        rw [hqk] at hγ
        simp [hka pl.k] at hγ
    have hst : Step w (w.setCell ⟨B, o + i * sz + c, none⟩ u) L L' S.γ (S.wrs [{ k := pl.k, v := (S.E pl.k).setCell pl.j (.d (setD x (pl.p ++ [(i, c)]) z)), keep := old.flat && z.flat }, { k := .a pl.k, v := V.dead }]).γ := by
      refine ⟨himk, fun k => St.γ_wrs_le S _ k, ?_, ?_, fun B2 r o2 _ hb => (hbox B2 r o2).2 hb⟩
      · intro B2 q o2 hq hγ hL
        refine ⟨hpl hq hγ hL, fun cur2 e2 fz2 hc2 => ?_⟩
        by_cases he : B2 = B
        · subst he; exact ⟨_, heap_setCell_eq w B2 _ u hc2, by simp⟩
        · exact ⟨cur2, (heap_setCell_ne _ _ _ _ he).trans hc2, rfl⟩
      · intro B2 q o2 hq _ hγa hL
        refine hne hL ?_
        intro e
        simp only [Lab.row.injEq] at e
        rw [γ_wr2, e.1, if_pos rfl] at hγa
        omega
    have hri' : ∀ B' q o', L B' = some (.row q o') → q = (⟨pl.k, pl.j, []⟩ : Place).app pl.p → B' = B := by
      intro B' q o' hL he
      rw [Place.app_self] at he
      subst he
      exact h.rowInj B' B q o' o hL hB
    have hcellrep : ∀ v, RepC nm w L S.γ pl.k pl.j (.d x) v → RepC nm (w.setCell ⟨B, o + i * sz + c, none⟩ u) L' (S.wrs [{ k := pl.k, v := (S.E pl.k).setCell pl.j (.d (setD x (pl.p ++ [(i, c)]) z)), keep := old.flat && z.flat }, { k := .a pl.k, v := V.dead }]).γ pl.k pl.j (.d (setD x (pl.p ++ [(i, c)]) z)) v := by
      intro v hv
      cases hv with
      | d hv =>
        refine .d (RepD.set hc pl.p hv hn (by rw [Place.app_self]; exact hB) hri' himk ?_ (by rw [Place.app_self]; exact hzd) hst8)
        intro B' q o' hu hnu hL
        rw [Place.app_self] at hnu
        refine hkeep B' q o' (hhm ?_) hnu hL
        rw [hu.key.1]; exact hk
    have hdom : Dom (w.setCell ⟨B, o + i * sz + c, none⟩ u) L' := by
      intro B2 l hl
      obtain ⟨l0, h0⟩ := hdm B2 l hl
      have := h.dom B2 l0 h0
      simpa using this
    have hbi : BoxInj L' := fun B1 B2 r o1 o2 g1 g2 => h.boxInj B1 B2 r o1 o2 ((hbox _ _ _).1 g1) ((hbox _ _ _).1 g2)
    have hoth : ∀ B2 q o2, q.k ≠ pl.k ∨ q.j ≠ pl.j → q.k.isPl = true → L B2 = some (.row q o2) → L' B2 = some (.row q o2) ∧ (w.setCell ⟨B, o + i * sz + c, none⟩ u).heap[B2]? = w.heap[B2]? := by
      intro B2 q o2 hq hqp hL
      refine ⟨hkeep B2 q o2 (hhm hqp) (fun hu => ?_) hL, hne hL (fun e => ?_)⟩
      · have := hu.key; simp only [Place.sub] at this; rcases hq with hq | hq
        · exact hq this.1
        · exact hq this.2
      · simp only [Lab.row.injEq] at e
        rcases hq with hq | hq <;> exact hq (by rw [e.1])
    refine ⟨?_, ⟨hst, ?_⟩, ?_, hkeep B pl o (hhm hk) hnu hB, hback⟩
    · -- two writes
      generalize hS' : St.wrs S [{ k := pl.k, v := (S.E pl.k).setCell pl.j (.d (setD x (pl.p ++ [(i, c)]) z)), keep := old.flat && z.flat }, { k := .a pl.k, v := V.dead }] = S' at hst hcellrep ⊢
      have hE' : ∀ k, k ≠ .a pl.k → S'.E k = if pl.k = k then (S.E pl.k).setCell pl.j (.d (setD x (pl.p ++ [(i, c)]) z)) else S.E k := by
        intro k hk2
        rw [← hS']
        simp only [St.wrs, St.E_wr, Ne.symm hk2, if_false]
      have hEr : ∀ r, S'.E (.r r) = S.E (.r r) := fun r => by rw [hE' _ (by simp), if_neg (fun e => by rw [e] at hk; simp [Key.isPl] at hk)]
      have hbx : ∀ B2 r o2, L B2 = some (.box r o2) → L' B2 = some (.box r o2) ∧ (w.setCell ⟨B, o + i * sz + c, none⟩ u).heap[B2]? = w.heap[B2]? := fun B2 r o2 hL => ⟨(hbox _ _ _).2 hL, hne hL (by simp)⟩
      clear hpl hS'
      generalize w.setCell ⟨B, o + i * sz + c, none⟩ u = w' at *
      refine ⟨h.size, h.defers, ?_, ?_, ?_, ?_, ?_, hdom, hri, hbi⟩
      · intro i2
        rw [hE' _ (by simp)]
        by_cases he : pl.k = .s i2
        · rw [if_pos he, he]
          rw [he] at hE hcellrep
          exact (h.slot i2).setCell hE hst (fun B2 q o2 hq hqj hL => hoth B2 q o2 (.inr hqj) (by rw [hq]; rfl) hL) hcellrep
        · rw [if_neg he]
          refine (h.slot i2).step hst ?_
          intro B2 q o2 hq hL
          rw [← hq, Place.at_self]
          exact hoth B2 q o2 (.inl (by rw [hq]; exact fun e => he e.symm)) (by rw [hq]; rfl) hL
      · intro r cc y hy hyd
        rw [hE' _ (by simp)] at hy
        by_cases he : pl.k = .b r cc
        · rw [if_pos he, he] at hy
          rw [he] at hE hcellrep
          obtain ⟨c0, hEk⟩ := h.bone r cc
          rw [hEk] at hE hy
          simp only [V.cells] at hE
          have hj0 : pl.j = 0 := by
            cases hj : pl.j with
            | zero => rfl
            | succ n => rw [hj] at hE; simp at hE
          rw [hj0] at hE hy hcellrep
          simp only [List.getElem?_cons_zero, Option.some.injEq] at hE
          subst hE
          simp only [V.setCell, if_true, V.one.injEq] at hy
          subst hy
          have hold := h.cell r cc _ hEk (by simp)
          have tr : (∃ B o cur e fz v, L B = some (.box r o) ∧ w.heap[B]? = some (.cells cur e fz) ∧ unfroz cur.size fz ∧ cur[o + cc]? = some v ∧ RepC nm w L S.γ (.b r cc) 0 (.d x) v ∧ BldOk (.d x) B o cc e cur.size v) →
              (∃ B2 o2 cur2 e2 fz2 v, L' B2 = some (.box r o2) ∧ w'.heap[B2]? = some (.cells cur2 e2 fz2) ∧ unfroz cur2.size fz2 ∧ cur2[o2 + cc]? = some v ∧
                RepC nm w' L' S'.γ (.b r cc) 0 (.d (setD x (pl.p ++ [(i, c)]) z)) v ∧ BldOk (.d (setD x (pl.p ++ [(i, c)]) z)) B2 o2 cc e2 cur2.size v) := fun ⟨B2, o2, cur2, e2, fz2, v, h1, h2, h3, h4, h5, _⟩ =>
            ⟨B2, o2, cur2, e2, fz2, v, (hbx B2 r o2 h1).1, (hbx B2 r o2 h1).2.trans h2, h3, h4, hcellrep v h5, trivial⟩
          cases r with
          | g i' => obtain ⟨v, hv⟩ := hold; exact ⟨v, hcellrep v hv⟩
          | e i' => exact tr hold
          | l i' => exact tr hold
        · rw [if_neg he] at hy
          refine (h.cell r cc y hy hyd).step hst ?_ ?_
          · intro B2 q o2 hq hL
            exact hoth B2 q o2 (.inl (by rw [hq]; exact fun e => he e.symm)) (by rw [hq]; rfl) hL
          · intro B2 o2 hL
            exact ⟨(hbx B2 r o2 hL).1, fun cur2 e2 fz2 hc2 => ⟨cur2, (hbx B2 r o2 hL).2.trans hc2, rfl, rfl⟩⟩
      · intro r cc
        rw [hE' _ (by simp)]
        by_cases he : pl.k = .b r cc
        · rw [if_pos he, he]
          obtain ⟨c0, hEk⟩ := h.bone r cc
          rw [hEk]
          by_cases hj : pl.j = 0
          · exact ⟨.d (setD x (pl.p ++ [(i, c)]) z), by rw [hj]; simp [V.setCell]⟩
          · exact ⟨c0, by simp [V.setCell, hj]⟩
        · rw [if_neg he]; exact h.bone r cc
      · intro r cc hcc
        rw [hEr] at hcc
        have hb := h.bound r cc hcc
        rw [hE' _ (by simp)]
        by_cases he : pl.k = .b r cc
        · rw [he, hb] at hE
          exfalso
          cases hj : pl.j with
          | zero => rw [hj] at hE; simp [V.cells] at hE
          | succ n => rw [hj] at hE; simp [V.cells] at hE
        · rw [if_neg he]; exact hb
      · intro r hg hr
        rw [hEr] at hr ⊢
        obtain ⟨B2, o2, cur2, e2, fz2, h1, h2, h3, h4⟩ := h.room r hg hr
        exact ⟨B2, o2, cur2, e2, fz2, (hbx _ _ _ h1).1, (hbx _ _ _ h1).2.trans h2, h3, h4⟩
    · intro B2 q o2 hq hK hL
      refine ⟨hkeep B2 q o2 hK (fun hu => ?_) hL, hne hL (fun e => ?_)⟩
      · rw [hu.key.1] at hq; simp only [Place.sub] at hq; rw [hk] at hq; cases hq
      · simp only [Lab.row.injEq] at e; rw [e.1, hk] at hq; cases hq
    · refine ⟨rfl, rfl, rfl, by simp, himk, ?_, fun B i o hB => (hbox _ _ _).2 hB⟩
      intro B2 _ hn2
      refine ⟨hnone B2 hn2, heap_setCell_ne _ _ _ _ ?_⟩
      rintro rfl
      rw [hB] at hn2; cases hn2
  cases hf : (old.flat && z.flat) with
  | true =>
    have hzf : z.flat = true := by simp only [Bool.and_eq_true] at hf; exact hf.2
    have := main L (fun _ => Iff.rfl) (fun _ _ _ => Iff.rfl) (fun _ h => h) (fun B l h => ⟨l, h⟩) h.rowInj (fun _ _ _ _ _ h => h) (fun _ _ _ _ h => h) (fun _ => rfl)
      (.plain ((hz.flatD hzf).mono (fun B2 hb => ⟨hb, hne hb (by simp)⟩)))
    rw [hf] at this
    exact ⟨L, this⟩
  | false =>
    have := main (elL (pl.sub i c) m j L) (fun _ => elL_imm) (fun _ _ _ => elL_box) (fun _ h => elL_none h) (fun B l h => elL_dom h) (elL_inj h.rowInj) (fun _ _ _ h1 h2 h => elL_keep h h1 h2)
      (fun B q o hq hL => by
        rcases elL_back hL with ⟨q0, _, _, rfl⟩ | ⟨h1, _⟩
        · simp only [Place.app, Place.sub] at hq; rw [hk] at hq; cases hq
        · exact h1)
      (fun h1 => by rw [hf] at h1; cases h1) (by
        cases hz with
        | d hz =>
          have := RepD.move (w' := w.setCell ⟨B, o + i * sz + c, none⟩ u) (L' := elL (pl.sub i c) m j L) (fun q => (pl.sub i c).app q.p) (fun q => q.k = .h m ∧ q.j = j) (fun _ _ _ h => h)
            (fun q a b _ => Place.app_sub _ _ _ _) (fun B2 hb => ⟨elL_imm.2 hb, hne hb (by simp)⟩) (fun B2 q o2 hq hL => ⟨elL_mov hL hq, hne hL (fun e => by
              simp only [Lab.row.injEq] at e; rw [e.1] at hq; rw [hq.1] at hk; simp [Key.isPl] at hk)⟩) hz ⟨rfl, rfl⟩
          simpa [Place.app] using this)
    rw [hf] at this
    exact ⟨_, this⟩
end
end
section
section
variable {nm : FuncId → Option Nat} {N : Nat} {S0 : St} {w0 : World} {L0 : LabF} {ws : List Wr} {a : Act} {w : World} {L : LabF}
theorem navD_append : ∀ (p : List (Nat × Nat)) (x : D) (q : List (Nat × Nat)), navD x (p ++ q) = (navD x p).bind (navD · q)
  | [], x, q => by simp [navD]
  | (i, c) :: p, x, q => by
    simp only [List.cons_append]
    cases x with
    | sl t sz rows =>
      cases t with
      | own =>
        rw [navD_cons, navD_cons]
        cases h : cellOf rows i c with
        | none => simp
        | some y => simp [navD_append p y q]
      | im b => simp [navD]
    | _ => simp [navD]
theorem navD_snoc {x old : D} {p : List (Nat × Nat)} {i c : Nat} (h : navD x (p ++ [(i, c)]) = some old) : ∃ sz rows, navD x p = some (.sl .own sz rows) ∧ cellOf rows i c = some old := by
  rw [navD_append] at h
  cases hx : navD x p with
  | none => simp [hx] at h
  | some y =>
    rw [hx] at h
    simp only [Option.bind_some] at h
    obtain ⟨sz, rows, z, rfl, h1, h2⟩ := navD_tag h
    simp only [navD, Option.some.injEq] at h2
    subst h2
    exact ⟨sz, rows, rfl, h1⟩
theorem navD_setD {z old : D} {i c : Nat} : ∀ (p : List (Nat × Nat)) {x : D} {sz : Nat} {rows : List (List D)}, navD x p = some (.sl .own sz rows) → cellOf rows i c = some old →
    navD (setD x (p ++ [(i, c)]) z) p = some (.sl .own sz (rows.set i ((rows.getD i []).set c z)))
  | [], x, sz, rows, h, hc => by
    simp only [navD, Option.some.injEq] at h
    subst h
    simp only [List.nil_append]
    rw [setD_cons hc, setD]
    rfl
  | (i', c') :: p, x, sz, rows, h, hc => by
    obtain ⟨sz0, rows0, y, rfl, h1, h2⟩ := navD_tag h
    simp only [List.cons_append]
    rw [setD_cons h1, navD_cons, cellOf_set h1, if_pos ⟨rfl, rfl⟩]
    simp only [Option.bind_some]
    exact navD_setD p h2 hc
theorem Rel.elSets {m : Nat} {pl : Place} {B o i sz : Nat} (hk : pl.k.isPl = true) : ∀ (zs : List D) (us : List Value) (j0 c : Nat) (x : D) {ws ws' : List Wr} {w : World} {L : LabF} (h : Rel nm N (S0.wrs ws) a w L)
    (hE : ((S0.wrs ws).E pl.k).cells[pl.j]? = some (.d x)) (hn : ∃ rows, navD x pl.p = some (.sl .own sz rows)) (hB : L B = some (.row pl o)) (hl : zs.length = us.length)
    (hw : elWrs ((S0.wrs ws).E pl.k) pl i c zs x ws = some ws')
    (hz : ∀ j z u, zs[j]? = some z → us[j]? = some u → RepC nm w L (S0.wrs ws).γ (.h m) (j0 + j) (.d z) u),
    ∃ L', Rel nm N (S0.wrs ws') a (w.setCells B (o + i * sz + c) us) L' ∧ Mono w (w.setCells B (o + i * sz + c) us) L L' ∧ (∀ B q o, q.k.isPl = false → L' B = some (.row q o) → L B = some (.row q o))
  | [], us, j0, c, x, ws, ws', w, L, h, hE, hn, hB, hl, hw, hz => by
    have : us = [] := by simpa using hl.symm
    subst this
    simp only [elWrs, Option.some.injEq] at hw
    subst hw
    exact ⟨L, h, Mono.refl _ _, fun _ _ _ _ h => h⟩
  | z :: zs, [], j0, c, x, ws, ws', w, L, h, hE, hn, hB, hl, hw, hz => by simp at hl
  | z :: zs, u :: us, j0, c, x, ws, ws', w, L, h, hE, hn, hB, hl, hw, hz => by
    simp only [elWrs] at hw
    cases ho : navD x (pl.p ++ [(i, c)]) with
    | none => simp [ho] at hw
    | some old =>
      rw [ho] at hw
      simp only at hw
      split at hw
      rotate_left
      · cases hw
      rename_i hst8
      obtain ⟨sz1, rows, h1, h2⟩ := navD_snoc ho
      obtain ⟨rows', hn'⟩ := hn
      obtain ⟨rfl, rfl⟩ : sz1 = sz ∧ rows = rows' := by rw [h1] at hn'; simpa using hn'
      obtain ⟨L1, g1, g2, g3, g4, g5⟩ := h.elSet hk hE h1 h2 hB (hz 0 z u rfl rfl) hst8
      have hka : ∀ k : Key, k ≠ .a k := by
        intro k
        induction k with
        | a k ih => intro e; simp only [Key.a.injEq] at e; exact ih e
        | _ => intro e; cases e
      have hE2 : (S0.wrs ({ k := pl.k, v := ((S0.wrs ws).E pl.k).setCell pl.j (.d (setD x (pl.p ++ [(i, c)]) z)), keep := old.flat && z.flat } :: { k := .a pl.k, v := V.dead } :: ws)).E pl.k =
          ((S0.wrs ws).E pl.k).setCell pl.j (.d (setD x (pl.p ++ [(i, c)]) z)) := by
        simp only [St.wrs, St.E_wr, if_true]
      obtain ⟨L2, k1, k2, k3⟩ := Rel.elSets hk zs us (j0 + 1) (c + 1) (setD x (pl.p ++ [(i, c)]) z) (ws := { k := pl.k, v := ((S0.wrs ws).E pl.k).setCell pl.j (.d (setD x (pl.p ++ [(i, c)]) z)), keep := old.flat && z.flat } :: { k := .a pl.k, v := V.dead } :: ws) g1
        (by rw [hE2]; exact V.cells_setCell hE) ⟨_, navD_setD pl.p h1 h2⟩ g4 (by simpa using hl) (by rw [hE2]; exact hw) (by
          intro j z' u' hz' hu'
          have := (hz (j + 1) z' u' (by simpa using hz') (by simpa using hu')).keep g2 (fun p => by simp)
          rwa [show j0 + 1 + j = j0 + (j + 1) by omega])
      exact ⟨L2, k1, g3.trans k2, fun B q o hq hL => g5 B q o hq (k3 B q o hq hL)⟩
theorem Rel.growH {S : St} (h : Rel nm N S a w L) {w' : World} {L' : LabF}
    (hheap : ∀ B l, L B = some l → (∀ q o, l = .row q o → q.k.isPl = true) → w'.heap[B]? = w.heap[B]? ∧ L' B = some l)
    (hd : Dom w' L') (hri : RowInj L') (hbi : BoxInj L') : Rel nm N S a w' L' := by
  have hst : Step w w' L L' S.γ S.γ := by
    refine ⟨fun B hB => ⟨(hheap B _ hB (by simp)).2, (hheap B _ hB (by simp)).1⟩, fun _ => Nat.le_refl _, ?_, ?_, fun B r o _ hB => (hheap B _ hB (by simp)).2⟩
    · intro B q o hq _ hB
      have := hheap B _ hB (fun q' o' e => by simp only [Lab.row.injEq] at e; rw [← e.1]; exact hq)
      exact ⟨this.2, fun cur e fz hc => ⟨cur, this.1.trans hc, rfl⟩⟩
    · intro B q o hq _ _ hB
      exact (hheap B _ hB (fun q' o' e => by simp only [Lab.row.injEq] at e; rw [← e.1]; exact hq)).1
  refine ⟨h.size, h.defers, ?_, ?_, h.bone, h.bound, fun r hg hr => let ⟨B, o, cur, e, fz, h1, h2, h3, h4⟩ := h.room r hg hr; ⟨B, o, cur, e, fz, (hheap B _ h1 (by simp)).2, (hheap B _ h1 (by simp)).1.trans h2, h3, h4⟩, hd, hri, hbi⟩
  · intro i
    refine (h.slot i).step hst ?_
    intro B q o hq hB
    have := hheap B _ hB (fun q' o' e => by simp only [Lab.row.injEq] at e; rw [← e.1, hq]; rfl)
    exact ⟨by rw [← hq, Place.at_self]; exact this.2, this.1⟩
  · intro r c x hx hxd
    refine (h.cell r c x hx hxd).step hst (fun B q o hq hB => ?_) (fun B o hB => ⟨(hheap B _ hB (by simp)).2, fun cur e fz hc => ⟨cur, (hheap B _ hB (by simp)).1.trans hc, rfl, rfl⟩⟩)
    have := hheap B _ hB (fun q' o' e => by simp only [Lab.row.injEq] at e; rw [← e.1, hq]; rfl)
    exact ⟨this.2, this.1⟩
theorem RepD.beyond {w' : World} {pl : Place} {B o n : Nat} {cur cur' : Array Value} {e : TypeId} {fz : Nat × Nat} (hL : L B = some (.row pl o)) (hB : w.heap[B]? = some (.cells cur e fz))
    (hne : ∀ B' l, L B' = some l → B' ≠ B → w'.heap[B']? = w.heap[B']?) (hB' : w'.heap[B]? = some (.cells cur' e fz)) (hsz : cur'.size = cur.size) (hsame : ∀ i, i < o + n → cur'[i]? = cur[i]?)
    {t : Place} {x : D} {v : Value} (h : RepD w L t x v) : (∀ p sz rows, t.app p = pl → navD x p = some (.sl .own sz rows) → rows.length * sz ≤ n) → RepD w' L t x v := by
  have himm : ImmKept w w' L L := fun B2 hb => ⟨hb, hne B2 _ hb (fun e => by rw [e, hL] at hb; cases hb)⟩
  induction h with
  | plain h => exact fun _ => .plain (h.mono himm)
  | ownE => exact fun _ => .ownE
  | @own t sz rows B1 o1 cap cur1 e1 fz1 val hsz1 hL1 hB1 hfz hlen hcap hroom hv hr hu8 ih =>
    intro hnav
    have hsub : ∀ i c x, cellOf rows i c = some x → RepD w' L (t.sub i c) x (val i c) := by
      intro i c x hx
      refine ih i c x hx (fun p sz' rows' ht hn => hnav ((i, c) :: p) sz' rows' ?_ ?_)
      · rw [Place.app_cons]; exact ht
      · rw [navD_cons, hx]; exact hn
    by_cases he : B1 = B
    · subst he
      rw [hL] at hL1
      simp only [Option.some.injEq, Lab.row.injEq] at hL1
      obtain ⟨rfl, rfl⟩ := hL1
      have hn := hnav [] sz rows (Place.app_nil _) rfl
      rw [hB] at hB1
      simp only [Option.some.injEq, Obj.cells.injEq] at hB1
      obtain ⟨rfl, rfl, rfl⟩ := hB1
      refine .own val hsz1 hL hB' (by rw [hsz]; exact hfz) hlen hcap (by rw [hsz]; exact hroom) ?_ hsub hu8
      intro i c x hx
      obtain ⟨hi, hc⟩ := cellOf_lt hlen hx
      rw [hsame]
      · exact hv i c x hx
      · have : (i + 1) * sz ≤ rows.length * sz := Nat.mul_le_mul_right _ (by omega)
        rw [Nat.add_mul] at this; omega
    · exact .own val hsz1 hL1 ((hne _ _ hL1 he).trans hB1) hfz hlen hcap hroom hv hsub hu8
theorem Rel.poke {S : St} (h : Rel nm N S a w L) {w' : World} {pl : Place} {B o n sz : Nat} {cur cur' : Array Value} {e : TypeId} {fz : Nat × Nat} {x : D} {rows : List (List D)} (hk : pl.k.isPl = true)
    (hE : (S.E pl.k).cells[pl.j]? = some (.d x)) (hn : navD x pl.p = some (.sl .own sz rows)) (hlen : rows.length * sz ≤ n)
    (hL : L B = some (.row pl o)) (hB : w.heap[B]? = some (.cells cur e fz))
    (hne : ∀ B' l, L B' = some l → B' ≠ B → w'.heap[B']? = w.heap[B']?) (hB' : w'.heap[B]? = some (.cells cur' e fz)) (hsz : cur'.size = cur.size) (hsame : ∀ i, i < o + n → cur'[i]? = cur[i]?) :
    Rel nm N (S.wr { k := .a pl.k, v := V.dead }) a w' L := by
  have hst : Step w w' L L S.γ (S.wr { k := .a pl.k, v := V.dead }).γ := by
    refine ⟨fun B2 hb => ⟨hb, hne B2 _ hb (fun e => by rw [e, hL] at hb; cases hb)⟩, S.γ_wr_le _, ?_, ?_, fun _ _ _ _ hb => hb⟩
    · intro B2 q o2 _ _ hb
      refine ⟨hb, fun cur2 e2 fz2 hc2 => ?_⟩
      by_cases he : B2 = B
      · subst he
        rw [hB] at hc2
        simp only [Option.some.injEq, Obj.cells.injEq] at hc2
        obtain ⟨rfl, rfl, rfl⟩ := hc2
        exact ⟨cur', hB', hsz⟩
      · exact ⟨cur2, (hne B2 _ hb he).trans hc2, rfl⟩
    · intro B2 q o2 _ _ hγa hb
      refine hne B2 _ hb (fun he => ?_)
      subst he
      rw [hL] at hb
      simp only [Option.some.injEq, Lab.row.injEq] at hb
      rw [← hb.1, St.γ_wr] at hγa
      simp at hγa
  have hE' : ∀ k, k ≠ .a pl.k → (S.wr { k := .a pl.k, v := V.dead }).E k = S.E k := fun k hk2 => by rw [St.E_wr]; simp [Ne.symm hk2]
  have hoth : ∀ B2 q o2, q.k ≠ pl.k ∨ q.j ≠ pl.j → L B2 = some (.row q o2) → L B2 = some (.row q o2) ∧ w'.heap[B2]? = w.heap[B2]? := by
    intro B2 q o2 hq hb
    refine ⟨hb, hne B2 _ hb (fun he => ?_)⟩
    subst he
    rw [hL] at hb
    simp only [Option.some.injEq, Lab.row.injEq] at hb
    rcases hq with hq | hq <;> exact hq (by rw [hb.1])
  have hcellrep : ∀ v, RepC nm w L S.γ pl.k pl.j (.d x) v → RepC nm w' L (S.wr { k := .a pl.k, v := V.dead }).γ pl.k pl.j (.d x) v := by
    intro v hv
    cases hv with
    | d hv =>
      refine .d (RepD.beyond hL hB hne hB' hsz hsame hv ?_)
      intro p sz' rows' hp hn'
      have : p = pl.p := by
        have := congrArg Place.p hp
        simpa [Place.app] using this
      subst this
      rw [hn] at hn'
      simp only [Option.some.injEq, D.sl.injEq, true_and] at hn'
      rw [← hn'.1, ← hn'.2]; exact hlen
  have hdom : Dom w' L := by
    intro B2 l hb
    by_cases he : B2 = B
    · subst he; exact (Array.getElem?_eq_some_iff.1 hB').1
    · exact heap_lt (h.dom B2 l hb) (hne B2 _ hb he)
  have hbx : ∀ B2 r o2, L B2 = some (.box r o2) → w'.heap[B2]? = w.heap[B2]? := fun B2 r o2 hb => hne B2 _ hb (fun he => by rw [he, hL] at hb; cases hb)
  generalize hS' : S.wr { k := .a pl.k, v := V.dead } = S' at *
  refine ⟨h.size, h.defers, ?_, ?_, ?_, ?_, ?_, hdom, h.rowInj, h.boxInj⟩
  · intro i2
    rw [hE' _ (by simp)]
    by_cases he : pl.k = .s i2
    · have := (h.slot i2).setCell (j := pl.j) (c := .d x) (c' := .d x) (by rw [← he]; exact hE) hst
        (fun B2 q o2 hq hqj hb => hoth B2 q o2 (.inr hqj) hb) (by rw [← he]; exact hcellrep)
      rwa [V.setCell_self (by rw [← he]; exact hE)] at this
    · refine (h.slot i2).step hst ?_
      intro B2 q o2 hq hb
      rw [← hq, Place.at_self]
      exact hoth B2 q o2 (.inl (by rw [hq]; exact fun e => he e.symm)) hb
  · intro r cc y hy hyd
    rw [hE' _ (by simp)] at hy
    by_cases he : pl.k = .b r cc
    · rw [he] at hE hcellrep
      rw [hy] at hE
      simp only [V.cells] at hE
      have hj0 : pl.j = 0 := by
        cases hj : pl.j with
        | zero => rfl
        | succ n => rw [hj] at hE; simp at hE
      rw [hj0] at hE hcellrep
      simp only [List.getElem?_cons_zero, Option.some.injEq] at hE
      subst hE
      have hold := h.cell r cc _ hy hyd
      have tr : (∃ B o cur e fz v, L B = some (.box r o) ∧ w.heap[B]? = some (.cells cur e fz) ∧ unfroz cur.size fz ∧ cur[o + cc]? = some v ∧ RepC nm w L S.γ (.b r cc) 0 (.d x) v ∧ BldOk (.d x) B o cc e cur.size v) →
          (∃ B o cur e fz v, L B = some (.box r o) ∧ w'.heap[B]? = some (.cells cur e fz) ∧ unfroz cur.size fz ∧ cur[o + cc]? = some v ∧ RepC nm w' L S'.γ (.b r cc) 0 (.d x) v ∧ BldOk (.d x) B o cc e cur.size v) :=
        fun ⟨B2, o2, cur2, e2, fz2, v, h1, h2, h3, h4, h5, _⟩ => ⟨B2, o2, cur2, e2, fz2, v, h1, (hbx B2 r o2 h1).trans h2, h3, h4, hcellrep v h5, trivial⟩
      cases r with
      | g i' => obtain ⟨v, hv⟩ := hold; exact ⟨v, hcellrep v hv⟩
      | e i' => exact tr hold
      | l i' => exact tr hold
    · refine (h.cell r cc y hy hyd).step hst ?_ ?_
      · intro B2 q o2 hq hb
        exact hoth B2 q o2 (.inl (by rw [hq]; exact fun e => he e.symm)) hb
      · intro B2 o2 hb
        exact ⟨hb, fun cur2 e2 fz2 hc2 => ⟨cur2, (hbx B2 r o2 hb).trans hc2, rfl, rfl⟩⟩
  · intro r cc; rw [hE' _ (by simp)]; exact h.bone r cc
  · intro r cc hcc
    rw [hE' _ (by simp)] at hcc ⊢
    exact h.bound r cc hcc
  · intro r hg hr
    rw [hE' _ (by simp)] at hr ⊢
    obtain ⟨B2, o2, cur2, e2, fz2, h1, h2, h3, h4⟩ := h.room r hg hr
    exact ⟨B2, o2, cur2, e2, fz2, h1, (hbx B2 r o2 h1).trans h2, h3, h4⟩
theorem Rel.allocRow {S : St} (h : Rel nm N S a w L) {m j : Nat} (hm : ∀ B o, L B ≠ some (.row ⟨.h m, j, []⟩ o)) (cur : Array Value) (e : TypeId) :
    Rel nm N S a (w.alloc (.cells cur e)) (L.put w.heap.size (.row ⟨.h m, j, []⟩ 0)) := by
  have hnew := h.dom.new
  have hne : ∀ B l, L B = some l → B ≠ w.heap.size := fun B l hB e => by rw [e, hnew] at hB; cases hB
  refine h.grow (fun B l hB => heap_alloc_lt w _ (hne B l hB)) (fun B l hB => by rw [LabF.put_other (hne B l hB)]; exact hB) ?_ ?_ ?_
  · intro B l hB
    by_cases he : B = w.heap.size
    · subst he; exact (Array.getElem?_eq_some_iff.1 (heap_alloc_self w _)).1
    · rw [LabF.put_other he] at hB
      exact heap_lt (h.dom B l hB) (heap_alloc_lt w _ he)
  · intro B B' pl o o' h1 h2
    by_cases he : B = w.heap.size
    · by_cases he' : B' = w.heap.size
      · rw [he, he']
      · subst he
        rw [LabF.put_same] at h1
        rw [LabF.put_other he'] at h2
        simp only [Option.some.injEq, Lab.row.injEq] at h1
        rw [← h1.1] at h2
        exact absurd h2 (hm B' o')
    · rw [LabF.put_other he] at h1
      by_cases he' : B' = w.heap.size
      · subst he'
        rw [LabF.put_same] at h2
        simp only [Option.some.injEq, Lab.row.injEq] at h2
        rw [← h2.1] at h1
        exact absurd h1 (hm B o)
      · rw [LabF.put_other he'] at h2
        exact h.rowInj B B' pl o o' h1 h2
  · intro B B' r o o' h1 h2
    by_cases he : B = w.heap.size
    · subst he; rw [LabF.put_same] at h1; simp at h1
    · by_cases he' : B' = w.heap.size
      · subst he'; rw [LabF.put_same] at h2; simp at h2
      · rw [LabF.put_other he] at h1
        rw [LabF.put_other he'] at h2
        exact h.boxInj B B' r o o' h1 h2
def Cont (w : World) (L : LabF) (H : Place) (rows : List (List D)) (val : Nat → Nat → Value) : Prop := ∀ i c x, cellOf rows i c = some x → RepD w L (H.sub i c) x (val i c)
def Lies (rows : List (List D)) (sz o : Nat) (cur : Array Value) (val : Nat → Nat → Value) : Prop := ∀ i c x, cellOf rows i c = some x → cur[o + i * sz + c]? = some (val i c)
theorem put_row {cur : Array Value} {e : TypeId} {H : Place} {rows : List (List D)} {val : Nat → Nat → Value} (hd : Dom w L) (hc : Cont w L H rows val) :
    Cont (w.alloc (.cells cur e)) (L.put w.heap.size (.row H 0)) H rows val := by
  intro i c x hx
  have hne : ∀ B l, L B = some l → B ≠ w.heap.size := fun B l hB e => by rw [e, hd.new] at hB; cases hB
  exact RepD.move id (fun _ => True) (fun _ _ _ _ => trivial) (fun _ _ _ _ => rfl) (fun B hB => ⟨by rw [LabF.put_other (hne B _ hB)]; exact hB, heap_alloc_lt w _ (hne B _ hB)⟩)
    (fun B q o _ hB => ⟨by rw [LabF.put_other (hne B _ hB)]; exact hB, heap_alloc_lt w _ (hne B _ hB)⟩) (hc i c x hx) trivial
theorem Rel.newRow {S : St} (h : Rel nm N S a w L) {m j : Nat} (hm : ∀ B o, L B ≠ some (.row ⟨.h m, j, []⟩ o)) {cur : Array Value} {e : TypeId} {rows : List (List D)} {val : Nat → Nat → Value} {sz cap : Nat} (hsz : 0 < sz)
    (hlen : ∀ r ∈ rows, r.length = sz) (hcap : rows.length ≤ cap) (hroom : cap * sz ≤ cur.size) (hv : Lies rows sz 0 cur val) (hc : Cont w L ⟨.h m, j, []⟩ rows val) (hu8 : U8At rows e) :
    Rel nm N S a (w.alloc (.cells cur e)) (L.put w.heap.size (.row ⟨.h m, j, []⟩ 0)) ∧
      RepC nm (w.alloc (.cells cur e)) (L.put w.heap.size (.row ⟨.h m, j, []⟩ 0)) S.γ (.h m) j (.d (.sl .own sz rows)) (.slice (some ⟨w.heap.size, 0, none⟩) rows.length cap) :=
  ⟨h.allocRow hm cur e, .d (.own val hsz (LabF.put_same _ _ _) (heap_alloc_self w _) (fun j _ => by simp) hlen hcap (by omega) (by simpa [Lies] using hv) (put_row h.dom hc) hu8)⟩
end
end
end Go.Abs
