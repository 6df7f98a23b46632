/- Steps that turn memory: several cells of a row; what lies behind a slice's end; new rows. -/
import Derived.Test.YtjndnconlakjkaaAbsMem2
set_option linter.unusedVariables false
set_option linter.unusedSimpArgs false
namespace Go.Abs
section
variable {nm : FuncId → Option Nat} {N : Nat} {S0 : St} {w0 : World} {L0 : LabF} {ws : List Wr} {a : Act} {w : World} {L : LabF}

theorem navD_append : ∀ (p : List (Nat × Nat)) (x : D) (q : List (Nat × Nat)), navD x (p ++ q) = (navD x p).bind (navD · q)
  | [], x, q => by simp [navD]
  | (i, c) :: p, x, q => by
    simp only [List.cons_append]
    cases x with
    | sl t sz rows =>
      cases t with
      | own =>
        rw [navD_cons, navD_cons]
        cases h : cellOf rows i c with
        | none => simp
        | some y => simp [navD_append p y q]
      | im b => simp [navD]
    | _ => simp [navD]

theorem navD_snoc {x old : D} {p : List (Nat × Nat)} {i c : Nat} (h : navD x (p ++ [(i, c)]) = some old) : ∃ sz rows, navD x p = some (.sl .own sz rows) ∧ cellOf rows i c = some old := by
  rw [navD_append] at h
  cases hx : navD x p with
  | none => simp [hx] at h
  | some y =>
    rw [hx] at h
    simp only [Option.bind_some] at h
    obtain ⟨sz, rows, z, rfl, h1, h2⟩ := navD_tag h
    simp only [navD, Option.some.injEq] at h2
    subst h2
    exact ⟨sz, rows, rfl, h1⟩

theorem navD_setD {z old : D} {i c : Nat} : ∀ (p : List (Nat × Nat)) {x : D} {sz : Nat} {rows : List (List D)}, navD x p = some (.sl .own sz rows) → cellOf rows i c = some old →
    navD (setD x (p ++ [(i, c)]) z) p = some (.sl .own sz (rows.set i ((rows.getD i []).set c z)))
  | [], x, sz, rows, h, hc => by
    simp only [navD, Option.some.injEq] at h
    subst h
    simp only [List.nil_append]
    rw [setD_cons hc, setD]
    rfl
  | (i', c') :: p, x, sz, rows, h, hc => by
    obtain ⟨sz0, rows0, y, rfl, h1, h2⟩ := navD_tag h
    simp only [List.cons_append]
    rw [setD_cons h1, navD_cons, cellOf_set h1, if_pos ⟨rfl, rfl⟩]
    simp only [Option.bind_some]
    exact navD_setD p h2 hc

/-- Cells of a row are written, one behind the other. -/
theorem Rel.elSets {m : Nat} {pl : Place} {B o i sz : Nat} (hk : pl.k.isPl = true) : ∀ (zs : List D) (us : List Value) (j0 c : Nat) (x : D) {ws ws' : List Wr} {w : World} {L : LabF} (h : Rel nm N (S0.wrs ws) a w L)
    (hE : ((S0.wrs ws).E pl.k).cells[pl.j]? = some (.d x)) (hn : ∃ rows, navD x pl.p = some (.sl .own sz rows)) (hB : L B = some (.row pl o)) (hl : zs.length = us.length)
    (hw : elWrs ((S0.wrs ws).E pl.k) pl i c zs x ws = some ws')
    (hz : ∀ j z u, zs[j]? = some z → us[j]? = some u → RepC nm w L (S0.wrs ws).γ (.h m) (j0 + j) (.d z) u),
    ∃ L', Rel nm N (S0.wrs ws') a (w.setCells B (o + i * sz + c) us) L' ∧ Mono w (w.setCells B (o + i * sz + c) us) L L' ∧ (∀ B q o, q.k.isPl = false → L' B = some (.row q o) → L B = some (.row q o))
  | [], us, j0, c, x, ws, ws', w, L, h, hE, hn, hB, hl, hw, hz => by
    have : us = [] := by simpa using hl.symm
    subst this
    simp only [elWrs, Option.some.injEq] at hw
    subst hw
    exact ⟨L, h, Mono.refl _ _, fun _ _ _ _ h => h⟩
  | z :: zs, [], j0, c, x, ws, ws', w, L, h, hE, hn, hB, hl, hw, hz => by simp at hl
  | z :: zs, u :: us, j0, c, x, ws, ws', w, L, h, hE, hn, hB, hl, hw, hz => by
    simp only [elWrs] at hw
    cases ho : navD x (pl.p ++ [(i, c)]) with
    | none => simp [ho] at hw
    | some old =>
      rw [ho] at hw
      simp only at hw
      obtain ⟨sz1, rows, h1, h2⟩ := navD_snoc ho
      obtain ⟨rows', hn'⟩ := hn
      obtain ⟨rfl, rfl⟩ : sz1 = sz ∧ rows = rows' := by rw [h1] at hn'; simpa using hn'
      obtain ⟨L1, g1, g2, g3, g4, g5⟩ := h.elSet hk hE h1 h2 hB (hz 0 z u rfl rfl)
      have hka : ∀ k : Key, k ≠ .a k := by
        intro k
        induction k with
        | a k ih => intro e; simp only [Key.a.injEq] at e; exact ih e
        | _ => intro e; cases e
      have hE2 : (S0.wrs ({ k := pl.k, v := ((S0.wrs ws).E pl.k).setCell pl.j (.d (setD x (pl.p ++ [(i, c)]) z)), keep := old.flat && z.flat } :: { k := .a pl.k, v := V.dead } :: ws)).E pl.k =
          ((S0.wrs ws).E pl.k).setCell pl.j (.d (setD x (pl.p ++ [(i, c)]) z)) := by
        simp only [St.wrs, St.E_wr, if_true]
      obtain ⟨L2, k1, k2, k3⟩ := Rel.elSets hk zs us (j0 + 1) (c + 1) (setD x (pl.p ++ [(i, c)]) z) (ws := { k := pl.k, v := ((S0.wrs ws).E pl.k).setCell pl.j (.d (setD x (pl.p ++ [(i, c)]) z)), keep := old.flat && z.flat } :: { k := .a pl.k, v := V.dead } :: ws) g1
        (by rw [hE2]; exact V.cells_setCell hE) ⟨_, navD_setD pl.p h1 h2⟩ g4 (by simpa using hl) (by rw [hE2]; exact hw) (by
          intro j z' u' hz' hu'
          have := (hz (j + 1) z' u' (by simpa using hz') (by simpa using hu')).keep g2 (fun p => by simp)
          rwa [show j0 + 1 + j = j0 + (j + 1) by omega])
      exact ⟨L2, k1, g3.trans k2, fun B q o hq hL => g5 B q o hq (k3 B q o hq hL)⟩

/-- Memory that is no place's may turn, and labels of what is under way. -/
theorem Rel.growH {S : St} (h : Rel nm N S a w L) {w' : World} {L' : LabF}
    (hheap : ∀ B l, L B = some l → (∀ q o, l = .row q o → q.k.isPl = true) → w'.heap[B]? = w.heap[B]? ∧ L' B = some l)
    (hd : Dom w' L') (hri : RowInj L') (hbi : BoxInj L') : Rel nm N S a w' L' := by
  have hst : Step w w' L L' S.γ S.γ := by
    refine ⟨fun B hB => ⟨(hheap B _ hB (by simp)).2, (hheap B _ hB (by simp)).1⟩, fun _ => Nat.le_refl _, ?_, ?_, fun B r o _ hB => (hheap B _ hB (by simp)).2⟩
    · intro B q o hq _ hB
      have := hheap B _ hB (fun q' o' e => by simp only [Lab.row.injEq] at e; rw [← e.1]; exact hq)
      exact ⟨this.2, fun cur e fz hc => ⟨cur, this.1.trans hc, rfl⟩⟩
    · intro B q o hq _ _ hB
      exact (hheap B _ hB (fun q' o' e => by simp only [Lab.row.injEq] at e; rw [← e.1]; exact hq)).1
  refine ⟨h.size, h.defers, ?_, ?_, h.bone, h.bound, fun r hg hr => let ⟨B, o, cur, e, fz, h1, h2, h3, h4⟩ := h.room r hg hr; ⟨B, o, cur, e, fz, (hheap B _ h1 (by simp)).2, (hheap B _ h1 (by simp)).1.trans h2, h3, h4⟩, hd, hri, hbi⟩
  · intro i
    refine (h.slot i).step hst ?_
    intro B q o hq hB
    have := hheap B _ hB (fun q' o' e => by simp only [Lab.row.injEq] at e; rw [← e.1, hq]; rfl)
    exact ⟨by rw [← hq, Place.at_self]; exact this.2, this.1⟩
  · intro r c x hx hxd
    refine (h.cell r c x hx hxd).step hst (fun B q o hq hB => ?_) (fun B o hB => ⟨(hheap B _ hB (by simp)).2, fun cur e fz hc => ⟨cur, (hheap B _ hB (by simp)).1.trans hc, rfl, rfl⟩⟩)
    have := hheap B _ hB (fun q' o' e => by simp only [Lab.row.injEq] at e; rw [← e.1, hq]; rfl)
    exact ⟨this.2, this.1⟩

/-- What lies behind the end of a slice of one's own may turn. -/
theorem RepD.beyond {w' : World} {pl : Place} {B o n : Nat} {cur cur' : Array Value} {e : TypeId} {fz : Nat × Nat} (hL : L B = some (.row pl o)) (hB : w.heap[B]? = some (.cells cur e fz))
    (hne : ∀ B' l, L B' = some l → B' ≠ B → w'.heap[B']? = w.heap[B']?) (hB' : w'.heap[B]? = some (.cells cur' e fz)) (hsz : cur'.size = cur.size) (hsame : ∀ i, i < o + n → cur'[i]? = cur[i]?)
    {t : Place} {x : D} {v : Value} (h : RepD w L t x v) : (∀ p sz rows, t.app p = pl → navD x p = some (.sl .own sz rows) → rows.length * sz ≤ n) → RepD w' L t x v := by
  have himm : ImmKept w w' L L := fun B2 hb => ⟨hb, hne B2 _ hb (fun e => by rw [e, hL] at hb; cases hb)⟩
  induction h with
  | plain h => exact fun _ => .plain (h.mono himm)
  | ownE => exact fun _ => .ownE
  | @own t sz rows B1 o1 cap cur1 e1 fz1 val hsz1 hL1 hB1 hfz hlen hcap hroom hv hr ih =>
    intro hnav
    have hsub : ∀ i c x, cellOf rows i c = some x → RepD w' L (t.sub i c) x (val i c) := by
      intro i c x hx
      refine ih i c x hx (fun p sz' rows' ht hn => hnav ((i, c) :: p) sz' rows' ?_ ?_)
      · rw [Place.app_cons]; exact ht
      · rw [navD_cons, hx]; exact hn
    by_cases he : B1 = B
    · subst he
      rw [hL] at hL1
      simp only [Option.some.injEq, Lab.row.injEq] at hL1
      obtain ⟨rfl, rfl⟩ := hL1
      have hn := hnav [] sz rows (Place.app_nil _) rfl
      rw [hB] at hB1
      simp only [Option.some.injEq, Obj.cells.injEq] at hB1
      obtain ⟨rfl, rfl, rfl⟩ := hB1
      refine .own val hsz1 hL hB' (by rw [hsz]; exact hfz) hlen hcap (by rw [hsz]; exact hroom) ?_ hsub
      intro i c x hx
      obtain ⟨hi, hc⟩ := cellOf_lt hlen hx
      rw [hsame]
      · exact hv i c x hx
      · have : (i + 1) * sz ≤ rows.length * sz := Nat.mul_le_mul_right _ (by omega)
        rw [Nat.add_mul] at this; omega
    · exact .own val hsz1 hL1 ((hne _ _ hL1 he).trans hB1) hfz hlen hcap hroom hv hsub

/-- Memory behind the end of a slice of an entry's own turns; what was appended to it before is void. -/
theorem Rel.poke {S : St} (h : Rel nm N S a w L) {w' : World} {pl : Place} {B o n sz : Nat} {cur cur' : Array Value} {e : TypeId} {fz : Nat × Nat} {x : D} {rows : List (List D)} (hk : pl.k.isPl = true)
    (hE : (S.E pl.k).cells[pl.j]? = some (.d x)) (hn : navD x pl.p = some (.sl .own sz rows)) (hlen : rows.length * sz ≤ n)
    (hL : L B = some (.row pl o)) (hB : w.heap[B]? = some (.cells cur e fz))
    (hne : ∀ B' l, L B' = some l → B' ≠ B → w'.heap[B']? = w.heap[B']?) (hB' : w'.heap[B]? = some (.cells cur' e fz)) (hsz : cur'.size = cur.size) (hsame : ∀ i, i < o + n → cur'[i]? = cur[i]?) :
    Rel nm N (S.wr { k := .a pl.k, v := V.dead }) a w' L := by
  have hst : Step w w' L L S.γ (S.wr { k := .a pl.k, v := V.dead }).γ := by
    refine ⟨fun B2 hb => ⟨hb, hne B2 _ hb (fun e => by rw [e, hL] at hb; cases hb)⟩, S.γ_wr_le _, ?_, ?_, fun _ _ _ _ hb => hb⟩
    · intro B2 q o2 _ _ hb
      refine ⟨hb, fun cur2 e2 fz2 hc2 => ?_⟩
      by_cases he : B2 = B
      · subst he
        rw [hB] at hc2
        simp only [Option.some.injEq, Obj.cells.injEq] at hc2
        obtain ⟨rfl, rfl, rfl⟩ := hc2
        exact ⟨cur', hB', hsz⟩
      · exact ⟨cur2, (hne B2 _ hb he).trans hc2, rfl⟩
    · intro B2 q o2 _ _ hγa hb
      refine hne B2 _ hb (fun he => ?_)
      subst he
      rw [hL] at hb
      simp only [Option.some.injEq, Lab.row.injEq] at hb
      rw [← hb.1, St.γ_wr] at hγa
      simp at hγa
  have hE' : ∀ k, k ≠ .a pl.k → (S.wr { k := .a pl.k, v := V.dead }).E k = S.E k := fun k hk2 => by rw [St.E_wr]; simp [Ne.symm hk2]
  have hoth : ∀ B2 q o2, q.k ≠ pl.k ∨ q.j ≠ pl.j → L B2 = some (.row q o2) → L B2 = some (.row q o2) ∧ w'.heap[B2]? = w.heap[B2]? := by
    intro B2 q o2 hq hb
    refine ⟨hb, hne B2 _ hb (fun he => ?_)⟩
    subst he
    rw [hL] at hb
    simp only [Option.some.injEq, Lab.row.injEq] at hb
    rcases hq with hq | hq <;> exact hq (by rw [hb.1])
  have hcellrep : ∀ v, RepC nm w L S.γ pl.k pl.j (.d x) v → RepC nm w' L (S.wr { k := .a pl.k, v := V.dead }).γ pl.k pl.j (.d x) v := by
    intro v hv
    cases hv with
    | d hv =>
      refine .d (RepD.beyond hL hB hne hB' hsz hsame hv ?_)
      intro p sz' rows' hp hn'
      have : p = pl.p := by
        have := congrArg Place.p hp
        simpa [Place.app] using this
      subst this
      rw [hn] at hn'
      simp only [Option.some.injEq, D.sl.injEq, true_and] at hn'
      rw [← hn'.1, ← hn'.2]; exact hlen
  have hdom : Dom w' L := by
    intro B2 l hb
    by_cases he : B2 = B
    · subst he; exact ⟨_, _, _, hB'⟩
    · obtain ⟨c2, e2, f2, hc2⟩ := h.dom B2 l hb
      exact ⟨c2, e2, f2, (hne B2 _ hb he).trans hc2⟩
  have hbx : ∀ B2 r o2, L B2 = some (.box r o2) → w'.heap[B2]? = w.heap[B2]? := fun B2 r o2 hb => hne B2 _ hb (fun he => by rw [he, hL] at hb; cases hb)
  generalize hS' : S.wr { k := .a pl.k, v := V.dead } = S' at *
  refine ⟨h.size, h.defers, ?_, ?_, ?_, ?_, ?_, hdom, h.rowInj, h.boxInj⟩
  · intro i2
    rw [hE' _ (by simp)]
    by_cases he : pl.k = .s i2
    · have := (h.slot i2).setCell (j := pl.j) (c := .d x) (c' := .d x) (by rw [← he]; exact hE) hst
        (fun B2 q o2 hq hqj hb => hoth B2 q o2 (.inr hqj) hb) (by rw [← he]; exact hcellrep)
      rwa [V.setCell_self (by rw [← he]; exact hE)] at this
    · refine (h.slot i2).step hst ?_
      intro B2 q o2 hq hb
      rw [← hq, Place.at_self]
      exact hoth B2 q o2 (.inl (by rw [hq]; exact fun e => he e.symm)) hb
  · intro r cc y hy hyd
    rw [hE' _ (by simp)] at hy
    by_cases he : pl.k = .b r cc
    · rw [he] at hE hcellrep
      rw [hy] at hE
      simp only [V.cells] at hE
      have hj0 : pl.j = 0 := by
        cases hj : pl.j with
        | zero => rfl
        | succ n => rw [hj] at hE; simp at hE
      rw [hj0] at hE hcellrep
      simp only [List.getElem?_cons_zero, Option.some.injEq] at hE
      subst hE
      have hold := h.cell r cc _ hy hyd
      have tr : (∃ B o cur e fz v, L B = some (.box r o) ∧ w.heap[B]? = some (.cells cur e fz) ∧ unfroz cur.size fz ∧ cur[o + cc]? = some v ∧ RepC nm w L S.γ (.b r cc) 0 (.d x) v) →
          (∃ B o cur e fz v, L B = some (.box r o) ∧ w'.heap[B]? = some (.cells cur e fz) ∧ unfroz cur.size fz ∧ cur[o + cc]? = some v ∧ RepC nm w' L S'.γ (.b r cc) 0 (.d x) v) :=
        fun ⟨B2, o2, cur2, e2, fz2, v, h1, h2, h3, h4, h5⟩ => ⟨B2, o2, cur2, e2, fz2, v, h1, (hbx B2 r o2 h1).trans h2, h3, h4, hcellrep v h5⟩
      cases r with
      | g i' => obtain ⟨v, hv⟩ := hold; exact ⟨v, hcellrep v hv⟩
      | e i' => exact tr hold
      | l i' => exact tr hold
    · refine (h.cell r cc y hy hyd).step hst ?_ ?_
      · intro B2 q o2 hq hb
        exact hoth B2 q o2 (.inl (by rw [hq]; exact fun e => he e.symm)) hb
      · intro B2 o2 hb
        exact ⟨hb, fun cur2 e2 fz2 hc2 => ⟨cur2, (hbx B2 r o2 hb).trans hc2, rfl, rfl⟩⟩
  · intro r cc; rw [hE' _ (by simp)]; exact h.bone r cc
  · intro r cc hcc
    rw [hE' _ (by simp)] at hcc ⊢
    exact h.bound r cc hcc
  · intro r hg hr
    rw [hE' _ (by simp)] at hr ⊢
    obtain ⟨B2, o2, cur2, e2, fz2, h1, h2, h3, h4⟩ := h.room r hg hr
    exact ⟨B2, o2, cur2, e2, fz2, h1, (hbx B2 r o2 h1).trans h2, h3, h4⟩

/-- A new row of cells, for what is under way. -/
theorem Rel.allocRow {S : St} (h : Rel nm N S a w L) {m j : Nat} (hm : ∀ B o, L B ≠ some (.row ⟨.h m, j, []⟩ o)) (cur : Array Value) (e : TypeId) :
    Rel nm N S a (w.alloc (.cells cur e)) (L.put w.heap.size (.row ⟨.h m, j, []⟩ 0)) := by
  have hnew := h.dom.new
  have hne : ∀ B l, L B = some l → B ≠ w.heap.size := fun B l hB e => by rw [e, hnew] at hB; cases hB
  refine h.grow (fun B l hB => heap_alloc_lt w _ (hne B l hB)) (fun B l hB => by rw [LabF.put_other (hne B l hB)]; exact hB) ?_ ?_ ?_
  · intro B l hB
    by_cases he : B = w.heap.size
    · subst he; exact ⟨cur, e, (0, 0), heap_alloc_self w _⟩
    · rw [LabF.put_other he] at hB
      rw [heap_alloc_lt w _ he]
      exact h.dom B l hB
  · intro B B' pl o o' h1 h2
    by_cases he : B = w.heap.size
    · by_cases he' : B' = w.heap.size
      · rw [he, he']
      · subst he
        rw [LabF.put_same] at h1
        rw [LabF.put_other he'] at h2
        simp only [Option.some.injEq, Lab.row.injEq] at h1
        rw [← h1.1] at h2
        exact absurd h2 (hm B' o')
    · rw [LabF.put_other he] at h1
      by_cases he' : B' = w.heap.size
      · subst he'
        rw [LabF.put_same] at h2
        simp only [Option.some.injEq, Lab.row.injEq] at h2
        rw [← h2.1] at h1
        exact absurd h1 (hm B o)
      · rw [LabF.put_other he'] at h2
        exact h.rowInj B B' pl o o' h1 h2
  · intro B B' r o o' h1 h2
    by_cases he : B = w.heap.size
    · subst he; rw [LabF.put_same] at h1; simp at h1
    · by_cases he' : B' = w.heap.size
      · subst he'; rw [LabF.put_same] at h2; simp at h2
      · rw [LabF.put_other he] at h1
        rw [LabF.put_other he'] at h2
        exact h.boxInj B B' r o o' h1 h2

/-- The content of a row of cells. -/
def Cont (w : World) (L : LabF) (H : Place) (rows : List (List D)) (val : Nat → Nat → Value) : Prop := ∀ i c x, cellOf rows i c = some x → RepD w L (H.sub i c) x (val i c)
/-- Where it lies. -/
def Lies (rows : List (List D)) (sz o : Nat) (cur : Array Value) (val : Nat → Nat → Value) : Prop := ∀ i c x, cellOf rows i c = some x → cur[o + i * sz + c]? = some (val i c)

theorem put_row {cur : Array Value} {e : TypeId} {H : Place} {rows : List (List D)} {val : Nat → Nat → Value} (hd : Dom w L) (hc : Cont w L H rows val) :
    Cont (w.alloc (.cells cur e)) (L.put w.heap.size (.row H 0)) H rows val := by
  intro i c x hx
  have hne : ∀ B l, L B = some l → B ≠ w.heap.size := fun B l hB e => by rw [e, hd.new] at hB; cases hB
  exact RepD.move id (fun _ => True) (fun _ _ _ _ => trivial) (fun _ _ _ _ => rfl) (fun B hB => ⟨by rw [LabF.put_other (hne B _ hB)]; exact hB, heap_alloc_lt w _ (hne B _ hB)⟩)
    (fun B q o _ hB => ⟨by rw [LabF.put_other (hne B _ hB)]; exact hB, heap_alloc_lt w _ (hne B _ hB)⟩) (hc i c x hx) trivial

/-- A new slice of one's own, under way. -/
theorem Rel.newRow {S : St} (h : Rel nm N S a w L) {m j : Nat} (hm : ∀ B o, L B ≠ some (.row ⟨.h m, j, []⟩ o)) {cur : Array Value} {e : TypeId} {rows : List (List D)} {val : Nat → Nat → Value} {sz cap : Nat} (hsz : 0 < sz)
    (hlen : ∀ r ∈ rows, r.length = sz) (hcap : rows.length ≤ cap) (hroom : cap * sz ≤ cur.size) (hv : Lies rows sz 0 cur val) (hc : Cont w L ⟨.h m, j, []⟩ rows val) :
    Rel nm N S a (w.alloc (.cells cur e)) (L.put w.heap.size (.row ⟨.h m, j, []⟩ 0)) ∧
      RepC nm (w.alloc (.cells cur e)) (L.put w.heap.size (.row ⟨.h m, j, []⟩ 0)) S.γ (.h m) j (.d (.sl .own sz rows)) (.slice (some ⟨w.heap.size, 0, none⟩) rows.length cap) :=
  ⟨h.allocRow hm cur e, .d (.own val hsz (LabF.put_same _ _ _) (heap_alloc_self w _) (fun j _ => by simp) hlen hcap (by omega) (by simpa [Lies] using hv) (put_row h.dom hc))⟩
end
end Go.Abs
