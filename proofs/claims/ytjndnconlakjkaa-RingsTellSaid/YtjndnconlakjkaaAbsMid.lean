/- In the middle of an operation. -/
import Derived.Test.YtjndnconlakjkaaAbsSt
set_option linter.unusedVariables false
set_option linter.unusedSimpArgs false
namespace Go.Abs

theorem navQ_run {S : St} : ∀ (p : List (Nat × Nat)) (x y : D), (navQ x p).run S = some y → navD x p = some y
  | [], x, y, h => by
    have : x = y := by cases x <;> simpa [navQ] using h
    subst this; cases x <;> rfl
  | (i, c) :: p, x, y, h => by
    cases x with
    | sl t sz rows =>
      cases t with
      | own =>
        simp only [navQ, Q.run_bind, Q.run_ofO] at h
        rw [navD]
        cases h1 : rows[i]? with
        | none => simp [h1] at h
        | some row =>
          simp only [h1, Option.bind_some] at h ⊢
          cases h2 : row[c]? with
          | none => simp [h2] at h
          | some z =>
            simp only [h2, Option.bind_some] at h ⊢
            cases h3 : (Q.asOwn z).run S with
            | none => simp [h3] at h
            | some z' =>
              simp only [h3, Option.bind_some] at h
              obtain rfl := Q.run_asOwn S h3
              exact navQ_run p _ _ h
      | im b => simp [navQ] at h
    | _ => simp [navQ] at h

theorem ownAt_run {S : St} {ws : List Wr} {pl : Place} {g sz : Nat} {r : Ent × D × List (List D)} (h : (ownAt ws pl g sz).run S = some r) :
    r.1 = ⟨(S.wrs ws).E pl.k, S.γ pl.k⟩ ∧ g = S.γ pl.k ∧ ((S.wrs ws).E pl.k).cells[pl.j]? = some (.d r.2.1) ∧ navD r.2.1 pl.p = some (.sl .own sz r.2.2) := by
  unfold ownAt at h
  simp only [Q.run_bind, atP_run, Option.bind_some, Q.run_guard] at h
  by_cases hg : (S.γ pl.k == g) = true
  · simp only [hg, if_true, Option.bind_some] at h
    cases hc : ((S.wrs ws).E pl.k).cells[pl.j]? with
    | none => simp [hc] at h
    | some c =>
      rw [hc] at h
      cases c with
      | d x =>
        simp only [Q.run_bind] at h
        cases hn0 : (navQ x pl.p).run S with
        | none => simp [hn0] at h
        | some y =>
          have hn := navQ_run _ _ _ hn0
          simp only [hn0, Option.bind_some] at h
          cases y with
          | sl t sz' rows =>
            cases t with
            | own =>
              simp only [Q.run_bind, Q.run_guard] at h
              by_cases hs : (sz' == sz) = true
              · simp only [hs, if_true, Option.bind_some, Q.run_pure, Option.some.injEq] at h
                have hs' : sz' = sz := by simpa using hs
                subst h
                subst hs'
                exact ⟨rfl, by simpa using (beq_iff_eq.1 hg).symm, rfl, hn⟩
              · simp [hs] at h
            | im b => simp at h
          | int => simp at h
          | bool => simp at h
          | str => simp at h
          | dead => simp at h
      | _ => simp at h
  · simp [hg] at h

theorem Step.trans {w1 w2 w3 : World} {L1 L2 L3 : LabF} {γ1 γ2 γ3 : Key → Nat} (h : Step w1 w2 L1 L2 γ1 γ2) (k : Step w2 w3 L2 L3 γ2 γ3) : Step w1 w3 L1 L3 γ1 γ3 := by
  have hle : ∀ x, γ3 x = γ1 x → γ2 x = γ1 x ∧ γ3 x = γ2 x := fun x e => by
    have h1 := h.cnt x; have h2 := k.cnt x; omega
  refine ⟨fun B hB => ⟨(k.imm B (h.imm B hB).1).1, (k.imm B (h.imm B hB).1).2.trans (h.imm B hB).2⟩, fun x => Nat.le_trans (h.cnt x) (k.cnt x), ?_, ?_, ?_⟩
  · intro B q o hq he hB
    obtain ⟨e1, e2⟩ := hle _ he
    obtain ⟨g1, g2⟩ := h.view B q o hq e1 hB
    obtain ⟨g3, g4⟩ := k.view B q o hq e2 g1
    refine ⟨g3, fun cur e fz hc => ?_⟩
    obtain ⟨cur', g5, g6⟩ := g2 cur e fz hc
    obtain ⟨cur'', g7, g8⟩ := g4 cur' e fz g5
    exact ⟨cur'', g7, g8.trans g6⟩
  · intro B q o hq he ha hB
    obtain ⟨e1, e2⟩ := hle _ he
    obtain ⟨e3, e4⟩ := hle _ ha
    exact (k.app B q o hq e2 e4 (h.view B q o hq e1 hB).1).trans (h.app B q o hq e1 e3 hB)
  · intro B r o he hB
    obtain ⟨e1, e2⟩ := hle _ he
    exact k.box B r o e2 (h.box B r o e1 hB)

/-- An operation has begun in S0, w0, L0; so many writes are under way. -/
structure Mid (nm : FuncId → Option Nat) (N : Nat) (S0 : St) (w0 : World) (L0 : LabF) (ws : List Wr) (a : Act) (w : World) (L : LabF) : Prop where
  rel : Rel nm N (S0.wrs ws) a w L
  stp : Step w0 w L0 L S0.γ (S0.wrs ws).γ
  mono : Mono w0 w L0 L
  rows : ∀ B q o, q.k.isPl = true → L B = some (.row q o) → L0 B = some (.row q o)
  heap : ∀ B l, L0 B = some l → w.heap[B]? = w0.heap[B]?
  inj0 : RowInj L0
  boxes : ∀ B r o, L0 B = some (.box r o) → L B = some (.box r o)

section
variable {nm : FuncId → Option Nat} {N : Nat} {S0 : St} {w0 : World} {L0 : LabF} {ws : List Wr} {a : Act} {w : World} {L : LabF}

theorem Mid.init {S : St} (h : Rel nm N S a w L) : Mid nm N S w L [] a w L :=
  ⟨h, Step.same w L (fun _ => Nat.le_refl _), Mono.refl w L, fun _ _ _ _ h => h, fun _ _ _ => rfl, h.rowInj, fun _ _ _ h => h⟩

/-- What is under way keeps its labels. -/
def KeepsH (L L' : LabF) : Prop := ∀ B q o, q.k.isPl = false → L B = some (.row q o) → L' B = some (.row q o)

theorem Mid.freeze (M : Mid nm N S0 w0 L0 ws a w L) {k : Key} {j : Nat} {p : List (Nat × Nat)} {x : D} {sz : Nat} {rows : List (List D)}
    (hk : k.isPl = true) (hE : ((S0.wrs ws).E k).cells[j]? = some (.d x)) (hn : navD x p = some (.sl .own sz rows)) :
    Mid nm N S0 w0 L0 (setWr ws k (((S0.wrs ws).E k).setCell j (.d (setD x p (.sl (.im false) sz (plainRs rows)))))) a w (freezeL ⟨k, j, p⟩ L) := by
  have hk' : (∃ i, k = .s i) ∨ ∃ r c, k = .b r c := by
    cases k with
    | s i => exact .inl ⟨i, rfl⟩
    | b r c => exact .inr ⟨r, c, rfl⟩
    | _ => simp [Key.isPl] at hk
  have hrel := M.rel.freezeAt hk' hE hn
  refine ⟨hrel, M.stp.trans ?_, M.mono.trans (freezeL_mono _), fun B q o hq hB => M.rows B q o hq (freezeL_row' hB).1, M.heap, M.inj0, fun B r o hB => freezeL_box.2 (M.boxes B r o hB)⟩
  show Step w w L _ (S0.wrs ws).γ ((S0.wrs ws).wr { k, v := _ }).γ
  rw [γ_bump]
  refine ⟨fun B hB => ⟨freezeL_imm hB, rfl⟩, bump_le _ k, ?_, fun _ _ _ _ _ _ _ => rfl, fun B r o _ hB => freezeL_box.2 hB⟩
  intro B q o hq hγ hL
  exact ⟨freezeL_row hL (fun hu => bump_ne hγ hu.key.1), fun cur e fz hB => ⟨cur, hB, rfl⟩⟩

/-- A view's rows, once its place is nobody's any more. -/
theorem viewPlain {t : Place} {sz off len : Nat} {rows : List (List D)} {u v : Value} {w0 : World} {L0 L : LabF} (hinj : RowInj L0)
    (hrows : ∀ B o, L B = some (.row t o) → L0 B = some (.row t o))
    (hd : RepD w L t (.sl .own sz rows) u) (hv : ViewAt w0 L0 t sz off len v) (hle : off + len ≤ rows.length) :
    RepP w (freezeL t L) (.sl (.im false) sz (plainRs ((rows.drop off).take len))) v := by
  by_cases hlen : len = 0
  · subst hlen
    simp only [List.take_zero, plainRs]
    rcases hv with ⟨_, a, rfl⟩ | ⟨B, o, cap, cur, e, fz, rfl, _⟩
    · exact .plE
    · exact .plE
  rcases hv with ⟨h0, _⟩ | ⟨B, o, cap, cur0, e0, fz0, rfl, hsz, hL0, _, _, hlecap, _⟩
  · exact absurd h0 hlen
  rcases hd.own_inv with ⟨rfl, _⟩ | ⟨B', o', cap', cur, e, fz, val, rfl, _, hL, hB, hfz, hlens, hcap, hroom, hval, hr⟩
  · simp at hle; omega
  have hL' := hrows B' o' hL
  obtain rfl := hinj B' B t o' o hL' hL0
  obtain rfl : o' = o := by rw [hL'] at hL0; simpa using hL0
  have hl : ((rows.drop off).take len).length = len := by simp; omega
  have hcell : ∀ i c x, cellOf (plainRs ((rows.drop off).take len)) i c = some x → ∃ y, cellOf rows (off + i) c = some y ∧ x = plainD y ∧ i < len := by
    intro i c x hx
    rw [cellOf_plain] at hx
    cases hy : cellOf ((rows.drop off).take len) i c with
    | none => simp [hy] at hx
    | some y =>
      simp only [hy, Option.map_some, Option.some.injEq] at hx
      obtain ⟨r, h1, h2⟩ := cellOf_some.1 hy
      have hil : i < len := by
        have := (List.getElem?_eq_some_iff.1 h1).1
        omega
      refine ⟨y, cellOf_some.2 ⟨r, ?_, h2⟩, hx.symm, hil⟩
      rw [List.getElem?_take_of_lt hil, List.getElem?_drop] at h1
      exact h1
  have hpl : (plainRs ((rows.drop off).take len)).length = len := by rw [plainRs_length, hl]
  have : RepP w (freezeL t L) (.sl (.im false) sz (plainRs ((rows.drop off).take len))) (.slice (some ⟨B', o' + off * sz, none⟩) (plainRs ((rows.drop off).take len)).length cap) := by
    refine .pl (cur := cur) (e := e) (fz := fz) (fun i c => val (off + i) c) ?_ hsz (by rw [hpl]; exact hlecap) (freezeL_under hL (Under.refl _)) hB ?_ ?_ ?_
    · intro h; rw [h] at hpl; simp at hpl; omega
    · intro r hr'
      rw [plainRs_eq] at hr'
      obtain ⟨r1, h1, rfl⟩ := List.mem_map.1 hr'
      simpa using hlens r1 (List.mem_of_mem_drop (List.mem_of_mem_take h1))
    · intro i c x hx
      obtain ⟨y, h1, _, _⟩ := hcell i c x hx
      have := hval _ _ _ h1
      rw [Nat.add_mul] at this
      rw [show o' + off * sz + i * sz + c = o' + (off * sz + i * sz) + c by omega]
      exact this
    · intro i c x hx
      obtain ⟨y, h1, rfl, _⟩ := hcell i c x hx
      exact RepD.freeze (Under t) (fun q i c h => h.sub i c) (fun B hB => ⟨freezeL_imm hB, rfl⟩) (fun B q o hq hL => ⟨freezeL_under hL hq, rfl⟩) (hr _ _ _ h1) ((Under.refl t).sub _ _)
  rwa [hpl] at this

/-- The datum of a slot's cell, or of a box's. -/
theorem Rel.cellRep {S : St} (h : Rel nm N S a w L) {k : Key} {j : Nat} {x : D} (hk : k.isPl = true)
    (hE : (S.E k).cells[j]? = some (.d x)) : ∃ u, RepD w L ⟨k, j, []⟩ x u := by
  cases k with
  | s i =>
    have := h.slot i
    cases hv : S.E (.s i) with
    | one c =>
      rw [hv] at this hE
      cases this with
      | one hc =>
        cases j with
        | succ j => simp [V.cells] at hE
        | zero =>
          simp only [V.cells, List.getElem?_cons_zero, Option.some.injEq] at hE
          subst hE
          cases hc with
          | d hd => exact ⟨_, hd⟩
    | agg cs =>
      rw [hv] at this hE
      generalize a.tmps.getD i undef = v0 at this
      cases this with
      | agg hl hc =>
        rename_i vs
        simp only [V.cells] at hE
        have hj : j < vs.size := by rw [← hl]; exact (List.getElem?_eq_some_iff.1 hE).1
        have := hc j _ vs[j] hE (by simp [hj])
        cases this with
        | d hd => exact ⟨_, hd⟩
    | tup vs => simp [hv, V.cells] at hE
  | b r c =>
    obtain ⟨c0, hv⟩ := h.bone r c
    rw [hv] at hE
    cases j with
    | succ j => simp [V.cells] at hE
    | zero =>
      simp only [V.cells, List.getElem?_cons_zero, Option.some.injEq] at hE
      subst hE
      have hcell := h.cell r c _ hv (by simp)
      cases r with
      | g i => obtain ⟨v, hv⟩ := hcell; cases hv with | d hd => exact ⟨_, hd⟩
      | e i => obtain ⟨B, o, cur, e, fz, v, _, _, _, _, hv⟩ := hcell; cases hv with | d hd => exact ⟨_, hd⟩
      | l i => obtain ⟨B, o, cur, e, fz, v, _, _, _, _, hv⟩ := hcell; cases hv with | d hd => exact ⟨_, hd⟩
  | r r => simp [Key.isPl] at hk
  | h i => simp [Key.isPl] at hk
  | a k => simp [Key.isPl] at hk

theorem RepD.sliceLike {pl : Place} {sz : Nat} {rows : List (List D)} {v : Value} (h : RepD w L pl (.sl .own sz rows) v) : SliceLike rows.length v := by
  rcases h.own_inv with ⟨rfl, a, rfl⟩ | ⟨B, o, cap, cur, e, fz, val, rfl, hsz, hL, hB, hfz, hlens, hcap, hroom, hval, hr⟩
  · exact ⟨_, _, rfl, Nat.le_refl _, rfl⟩
  · exact ⟨_, _, rfl, hcap, rfl⟩

theorem RepC.look {γ : Key → Nat} {k : Key} {j : Nat} {c : C} {v : Value} (hk : k.isPl = true) (h : RepC nm w L γ k j c v) (k' : Key) (j' : Nat) :
    RepC nm w L γ k' j' (c.look k (γ k) j) v := by
  cases hc : c.own with
  | false =>
    have : c.look k (γ k) j = c := by
      cases c with
      | d x =>
        cases x with
        | sl t sz rows => cases t <;> simp_all [C.own, C.look]
        | _ => rfl
      | appd => simp [C.own] at hc
      | _ => rfl
    rw [this]
    exact h.any (h.clean_of hc) _ _
  | true =>
    cases h with
    | @d x v h =>
      cases x with
      | sl t sz rows =>
        cases t with
        | own =>
          simp only [C.look]
          refine .view h.sliceLike hk (Nat.le_refl _) (fun _ => ?_)
          rcases h.own_inv with ⟨rfl, a, rfl⟩ | ⟨B, o, cap, cur, e, fz, val, rfl, hsz, hL, hB, hfz, hlens, hcap, hroom, hval, hr⟩
          · exact .inl ⟨rfl, a, rfl⟩
          · exact .inr ⟨B, o, cap, cur, e, fz, by simp, hsz, hL, hB, hfz, hcap, by omega⟩
        | im b => simp [C.own] at hc
      | _ => simp [C.own] at hc
    | appd => simp only [C.look]; exact .dead
    | _ => simp [C.own] at hc

theorem lookL_get (k : Key) (g : Nat) : ∀ (cs : List C) (j0 j : Nat) , (lookL k g j0 cs)[j]? = (cs[j]?).map fun c => c.look k g (j0 + j)
  | [], _, _ => by simp [lookL]
  | c :: cs, j0, 0 => by simp [lookL]
  | c :: cs, j0, j + 1 => by
    simp only [lookL, List.getElem?_cons_succ]
    rw [lookL_get k g cs (j0 + 1) j]
    congr 1
    funext c
    congr 1
    omega
theorem lookL_length (k : Key) (g : Nat) : ∀ (cs : List C) (j0 : Nat), (lookL k g j0 cs).length = cs.length
  | [], _ => rfl
  | c :: cs, j0 => by simp [lookL, lookL_length k g cs]

theorem RepV.look {γ : Key → Nat} {k : Key} {x : V} {v : Value} (hk : k.isPl = true) (h : RepV nm w L γ k x v) (k' : Key) : RepV nm w L γ k' (x.look k (γ k)) v := by
  cases h with
  | one h => exact .one (h.look hk _ _)
  | agg hl h =>
    refine .agg (by rw [lookL_length]; exact hl) ?_
    intro j c u h1 h2
    rw [lookL_get] at h1
    simp only [Nat.zero_add] at h1
    rename_i cs vs
    cases hc : cs[j]? with
    | none => simp [hc] at h1
    | some c0 =>
      simp only [hc, Option.map_some, Option.some.injEq] at h1
      subst h1
      exact (h j c0 u hc h2).look hk _ _
  | tup hl hcl h => exact .tup hl hcl (fun i x u h1 h2 => (h i x u h1 h2).any (cleanVs_get hcl h1) _)

/-- How an operand of the evaluator stands to one of the model's. -/
inductive OpRel (nm : FuncId → Option Nat) : X → Operand → Prop where
  | s {i} : OpRel nm (.s i) (.tmp i)
  | t {i} : OpRel nm (.t i) (.tmp i)
  | c {x v} (h : ∀ (w : World) (L : LabF) (γ : Key → Nat) (k : Key), RepV nm w L γ k x v) : OpRel nm (.c x) (.const v)
  | f {n f} (h : nm f = some n) : OpRel nm (.f n) (.func f)

theorem rd_rep {S : St} (h : Rel nm N S a w L) {x : X} {o : Operand} (ho : OpRel nm x o) {v : V} (hr : (rd x).run S = some v) (k : Key) :
    RepV nm w L S.γ k v (a.eval o) := by
  cases ho with
  | @s i =>
    simp only [rd, Q.run_bind, Q.run_at, Option.bind_some, Q.run_pure, Option.some.injEq] at hr
    subst hr
    exact (h.slot i).look rfl k
  | @t i =>
    simp only [rd, Q.run_bind, Q.run_at, Option.bind_some, Q.run_pure, Option.some.injEq] at hr
    subst hr
    exact (h.slot i).look rfl k
  | @c x v hc =>
    simp only [rd, Q.run_pure, Option.some.injEq] at hr
    subst hr
    exact hc w L S.γ k
  | @f n fid hf =>
    simp only [rd, Q.run_pure, Option.some.injEq] at hr
    subst hr
    exact .one (.fn (fs := #[]) (cs := #[]) hf rfl rfl ⟨rfl, rfl⟩ (fun i x u h => by simp at h) (fun i x u h => by simp at h))

theorem RepC.stepClean {w' : World} {L' : LabF} {γ γ' : Key → Nat} (hs : Step w w' L L' γ γ') {k : Key} {j : Nat} {c : C} {v : Value} (h : RepC nm w L γ k j c v)
    (hc : c.clean = true) (k' : Key) (j' : Nat) : RepC nm w' L' γ' k' j' c v := by
  induction h with
  | @d x v h =>
    cases h with
    | plain h => exact .d (.plain (h.mono hs.imm))
    | ownE => simp [C.clean] at hc
    | own => simp [C.clean] at hc
  | @ptr r g c v hv hg h =>
    refine .ptr hv (Nat.le_trans hg (hs.cnt _)) ?_
    intro he
    have : γ' (.r r) = γ (.r r) := Nat.le_antisymm (he ▸ hg) (hs.cnt _)
    obtain ⟨B, o, h1, h2⟩ := h (he.trans this)
    exact ⟨B, o, hs.box B r o this h1, h2⟩
  | @eptr pl g sz i c v hv hh hg h =>
    refine .eptr hv hh (Nat.le_trans hg (hs.cnt _)) ?_
    intro he
    have : γ' pl.k = γ pl.k := Nat.le_antisymm (he ▸ hg) (hs.cnt _)
    obtain ⟨B, o, h1, h2⟩ := h (he.trans this)
    exact ⟨B, o, (hs.view B pl o hh this h1).1, h2⟩
  | pp hL hB h =>
    refine .pp (hs.imm _ hL).1 ((hs.imm _ hL).2.trans hB) ?_
    intro q x hx
    obtain ⟨u, h1, h2⟩ := h q x hx
    exact ⟨u, h1, h2.mono hs.imm⟩
  | @view pl g sz off len v hv hh hg h =>
    refine .view hv hh (Nat.le_trans hg (hs.cnt _)) ?_
    intro he
    have : γ' pl.k = γ pl.k := Nat.le_antisymm (he ▸ hg) (hs.cnt _)
    exact (h (he.trans this)).step hs hh this
  | appd => simp [C.clean] at hc
  | fn hf h1 h2 hcl h3 h4 ih3 ih4 =>
    exact .fn hf h1 h2 hcl (fun i x u hx hu => ih3 i x u hx hu (cleanL_get hcl.1 hx)) (fun i x u hx hu => ih4 i x u hx hu (cleanL_get hcl.2 hx))
  | nilp => exact .nilp
  | nilf => exact .nilf
  | nili => exact .nili
  | ifc => exact .ifc
  | dead => exact .dead

theorem RepV.stepClean {w' : World} {L' : LabF} {γ γ' : Key → Nat} (hs : Step w w' L L' γ γ') {k : Key} {x : V} {v : Value} (h : RepV nm w L γ k x v)
    (hc : x.clean = true) (k' : Key) : RepV nm w' L' γ' k' x v := by
  induction h with
  | one h => exact .one (h.stepClean hs hc _ _)
  | agg hl h => exact .agg hl (fun j c u h1 h2 => (h j c u h1 h2).stepClean hs (cleanL_get hc h1) _ _)
  | tup hl hcl h ih => exact .tup hl hcl (fun i x u h1 h2 => ih i x u h1 h2 (cleanVs_get hcl h1))

/-- A cell that is under way. -/
def LimC (nm : FuncId → Option Nat) (w0 : World) (L0 : LabF) (γ0 : Key → Nat) (w : World) (L : LabF) (γ : Key → Nat) (m j : Nat) (c : C) (v : Value) : Prop :=
  match c with
  | .view .. => RepC nm w0 L0 γ0 (.h m) j c v
  | _ => RepC nm w L γ (.h m) j c v

theorem LimC.of_rep {γ0 γ : Key → Nat} (hs : Step w0 w L0 L γ0 γ) {k : Key} {m j j' : Nat} {c : C} {v : Value} (h : RepC nm w0 L0 γ0 k j' c v) (hc : c.own = false) : LimC nm w0 L0 γ0 w L γ m j c v := by
  have hcl := h.clean_of hc
  have hst : RepC nm w L γ (.h m) j c v := h.stepClean hs hcl _ _
  have h0 : RepC nm w0 L0 γ0 (.h m) j c v := h.any hcl _ _
  cases c with
  | view => exact h0
  | _ => exact hst

/-- What a step in the middle must leave alone for what is under way. -/
structure Keep (w w' : World) (L L' : LabF) (γ γ' : Key → Nat) (K : Place → Prop) : Prop where
  stp : Step w w' L L' γ γ'
  h : ∀ B q o, q.k.isPl = false → K q → L B = some (.row q o) → L' B = some (.row q o) ∧ w'.heap[B]? = w.heap[B]?

theorem LimC.keep {γ0 γ γ' : Key → Nat} {w' : World} {L' : LabF} {m j : Nat} {c : C} {v : Value} {K : Place → Prop} (hk : Keep w w' L L' γ γ' K)
    (hK : ∀ p, K ⟨.h m, j, p⟩) (h : LimC nm w0 L0 γ0 w L γ m j c v) : LimC nm w0 L0 γ0 w' L' γ' m j c v := by
  have step : ∀ {c : C}, RepC nm w L γ (.h m) j c v → RepC nm w' L' γ' (.h m) j c v := by
    intro c hc
    refine hc.step hk.stp ?_
    intro B q o h1 h2 hL
    have := hk.h B q o (by rw [h1]; rfl) (by have := hK q.p; rw [← h1, ← h2] at this; exact this) hL
    rwa [← h1, ← h2, Place.at_self]
  cases c with
  | view => exact h
  | _ => exact step h

theorem RepC.keep {γ γ' : Key → Nat} {w' : World} {L' : LabF} {m j : Nat} {c : C} {v : Value} {K : Place → Prop} (hk : Keep w w' L L' γ γ' K)
    (hK : ∀ p, K ⟨.h m, j, p⟩) (h : RepC nm w L γ (.h m) j c v) : RepC nm w' L' γ' (.h m) j c v := by
  refine h.step hk.stp ?_
  intro B q o h1 h2 hL
  have := hk.h B q o (by rw [h1]; rfl) (by have := hK q.p; rw [← h1, ← h2] at this; exact this) hL
  rwa [← h1, ← h2, Place.at_self]

def LimV (nm : FuncId → Option Nat) (w0 : World) (L0 : LabF) (γ0 : Key → Nat) (w : World) (L : LabF) (γ : Key → Nat) (m : Nat) (x : V) (v : Value) : Prop :=
  match x with
  | .one c => LimC nm w0 L0 γ0 w L γ m 0 c v
  | .agg cs => ∃ vs : Array Value, v = .agg vs ∧ cs.length = vs.size ∧ ∀ (j : Nat) c u, cs[j]? = some c → vs[j]? = some u → LimC nm w0 L0 γ0 w L γ m j c u
  | .tup _ => RepV nm w L γ (.h m) x v

theorem LimV.keep {γ0 γ γ' : Key → Nat} {w' : World} {L' : LabF} {m : Nat} {x : V} {v : Value} {K : Place → Prop} (hk : Keep w w' L L' γ γ' K)
    (hK : ∀ j p, K ⟨.h m, j, p⟩) (h : LimV nm w0 L0 γ0 w L γ m x v) : LimV nm w0 L0 γ0 w' L' γ' m x v := by
  cases x with
  | one c => exact LimC.keep hk (hK 0) h
  | agg cs =>
    obtain ⟨vs, rfl, hl, hc⟩ := h
    exact ⟨vs, rfl, hl, fun j c u h1 h2 => (hc j c u h1 h2).keep hk (hK j)⟩
  | tup vs =>
    refine RepV.step hk.stp ?_ h
    intro B q o h1 hL
    have := hk.h B q o (by rw [h1]; rfl) (by have := hK q.j q.p; rw [← h1] at this; exact this) hL
    rwa [← h1, Place.at_self]

theorem own_get {x : V} {j : Nat} {c : C} (h : x.own = false) (hc : x.cells[j]? = some c) : c.own = false := by
  unfold V.own at h
  rw [List.any_eq_false] at h
  have := h c (List.mem_of_getElem? hc)
  simpa using this

theorem LimV.of_rep {γ0 γ : Key → Nat} (hs : Step w0 w L0 L γ0 γ) {k : Key} {m : Nat} {x : V} {v : Value} (h : RepV nm w0 L0 γ0 k x v) (hc : x.own = false) : LimV nm w0 L0 γ0 w L γ m x v := by
  cases h with
  | one h => exact LimC.of_rep hs h (own_get (j := 0) hc rfl)
  | @agg cs vs hl h => exact ⟨vs, rfl, hl, fun j c u h1 h2 => LimC.of_rep hs (h j c u h1 h2) (own_get hc h1)⟩
  | tup hl hcl h => exact RepV.stepClean hs (.tup hl hcl h) (by simpa [V.clean] using hcl) _

theorem look_own (k : Key) (g j : Nat) (c : C) : (c.look k g j).own = false := by
  cases c with
  | d x =>
    cases x with
    | sl t sz rows => cases t <;> rfl
    | _ => rfl
  | _ => rfl
theorem lookL_own (k : Key) (g : Nat) : ∀ (cs : List C) (j : Nat), (lookL k g j cs).any C.own = false
  | [], _ => rfl
  | c :: cs, j => by simp [lookL, look_own, lookL_own k g cs (j + 1)]
theorem V.look_own (k : Key) (g : Nat) (x : V) : (x.look k g).own = false := by
  cases x with
  | one c => simp [V.look, V.own, V.cells, Go.Abs.look_own]
  | agg cs => simp only [V.look, V.own, V.cells]; exact lookL_own k g cs 0
  | tup vs => rfl

/-- A constant has nothing of a place's own. -/
def X.okC : X → Bool
  | .c v => !v.own
  | _ => true

theorem rd_own {S : St} {x : X} (hx : x.okC = true) {v : V} (hr : (rd x).run S = some v) : v.own = false := by
  cases x with
  | s i =>
    simp only [rd, Q.run_bind, Q.run_at, Option.bind_some, Q.run_pure, Option.some.injEq] at hr
    subst hr; exact V.look_own _ _ _
  | t i =>
    simp only [rd, Q.run_bind, Q.run_at, Option.bind_some, Q.run_pure, Option.some.injEq] at hr
    subst hr; exact V.look_own _ _ _
  | c v =>
    simp only [rd, Q.run_pure, Option.some.injEq] at hr
    subst hr; simpa [X.okC] using hx
  | f n =>
    simp only [rd, Q.run_pure, Option.some.injEq] at hr
    subst hr; rfl

/-- The outcome of a step in the middle: what is under way at places of K keeps its labels; labels of such entries are new under number m alone. -/
structure Out (nm : FuncId → Option Nat) (N : Nat) (S0 : St) (w0 : World) (L0 : LabF) (ws ws' : List Wr) (a : Act) (w : World) (L L' : LabF) (K : Place → Prop) (m : Nat) : Prop where
  mid : Mid nm N S0 w0 L0 ws' a w L'
  stp : Step w w L L' (S0.wrs ws).γ (S0.wrs ws').γ
  keepH : ∀ B q o, q.k.isPl = false → K q → L B = some (.row q o) → L' B = some (.row q o)
  onlyH : ∀ B q o, q.k.isPl = false → q.k ≠ .h m → L' B = some (.row q o) → L B = some (.row q o)

theorem Out.refl (M : Mid nm N S0 w0 L0 ws a w L) (K : Place → Prop) (m : Nat) : Out nm N S0 w0 L0 ws ws a w L L K m :=
  ⟨M, Step.same w L (fun _ => Nat.le_refl _), fun _ _ _ _ _ h => h, fun _ _ _ _ _ h => h⟩

theorem Out.trans {ws' ws'' : List Wr} {L' L'' : LabF} {K : Place → Prop} {m : Nat} (h : Out nm N S0 w0 L0 ws ws' a w L L' K m) (k : Out nm N S0 w0 L0 ws' ws'' a w L' L'' K m) :
    Out nm N S0 w0 L0 ws ws'' a w L L'' K m :=
  ⟨k.mid, h.stp.trans k.stp, fun B q o h1 h2 h3 => k.keepH B q o h1 h2 (h.keepH B q o h1 h2 h3), fun B q o h1 h2 h3 => h.onlyH B q o h1 h2 (k.onlyH B q o h1 h2 h3)⟩

theorem Out.weaken {ws' : List Wr} {L' : LabF} {K K' : Place → Prop} {m : Nat} (h : Out nm N S0 w0 L0 ws ws' a w L L' K m) (hK : ∀ q, K' q → K q) : Out nm N S0 w0 L0 ws ws' a w L L' K' m :=
  ⟨h.mid, h.stp, fun B q o h1 h2 => h.keepH B q o h1 (hK q h2), h.onlyH⟩

theorem Out.keep {ws' : List Wr} {L' : LabF} {K : Place → Prop} {m : Nat} (h : Out nm N S0 w0 L0 ws ws' a w L L' K m) : Keep w w L L' (S0.wrs ws).γ (S0.wrs ws').γ K :=
  ⟨h.stp, fun B q o h1 h2 h3 => ⟨h.keepH B q o h1 h2 h3, rfl⟩⟩

theorem Out.free {ws' : List Wr} {L' : LabF} {K : Place → Prop} {m m' : Nat} (h : Out nm N S0 w0 L0 ws ws' a w L L' K m) (hf : FreeH L m') (hne : m' ≠ m) : FreeH L' m' := by
  intro B q o hL e
  exact hf B q o (h.onlyH B q o (by rw [e]; rfl) (by rw [e]; simpa using hne) hL) e

/-- An operand, used up if it is a slice of its own. -/
theorem tk_rep (M : Mid nm N S0 w0 L0 ws a w L) (R0 : Rel nm N S0 a w0 L0) {m : Nat} (hm : FreeH L m) {x : X} {o : Operand} (hx : x.okC = true) (ho : OpRel nm x o) {r : V × List Wr}
    (hr : (tk ws x).run S0 = some r) :
    ∃ L', Out nm N S0 w0 L0 ws r.2 a w L L' (fun _ => True) m ∧ LimV nm w0 L0 S0.γ w L' (S0.wrs r.2).γ m r.1 (a.eval o) := by
  have reads : ∀ v, (rd x).run S0 = some v → LimV nm w0 L0 S0.γ w L (S0.wrs ws).γ m v (a.eval o) := fun v hv =>
    LimV.of_rep M.stp (rd_rep R0 ho hv (.h m)) (rd_own hx hv)
  cases x with
  | t i =>
    cases ho with
    | t =>
    simp only [tk, Q.run_bind, Q.run_at, Option.bind_some, Q.run_guard] at hr
    cases hw : getWr ws (.s i) with
    | some v => simp [hw] at hr
    | none =>
      simp only [hw, Option.isNone_none, if_true, Option.bind_some, Q.run_ite, Q.run_pure] at hr
      have hE : (S0.wrs ws).E (.s i) = S0.E (.s i) := by rw [getWr_E, hw]; rfl
      by_cases hown : S0.E (.s i) |>.own
      · have hown' : (S0.get (.s i)).v.own = true := hown
        simp only [hown', if_true, Option.some.injEq] at hr
        subst hr
        obtain ⟨L', h1, h2, h3, h4, h5, h6, h7⟩ := M.rel.take i m hm
        rw [hE] at h2
        have hstep : Step w w L L' (S0.wrs ws).γ ((S0.wrs ws).wr { k := .s i, v := V.dead }).γ := by
          refine ⟨fun B hB => ⟨(h3 B).1 hB, rfl⟩, St.γ_wr_le _ _, ?_, fun _ _ _ _ _ _ _ => rfl, fun B r o _ hB => (h6 B r o).1 hB⟩
          intro B q o hq hγ hL
          rw [γ_bump] at hγ
          have hne := bump_ne hγ
          exact ⟨(h4 B q o hne (by intro e; rw [e] at hq; simp [Key.isPl] at hq)).1 hL, fun cur e fz hB => ⟨cur, hB, rfl⟩⟩
        refine ⟨L', ⟨⟨h1, M.stp.trans hstep, ?_, ?_, M.heap, M.inj0, fun B r o hB => (h6 B r o).1 (M.boxes B r o hB)⟩, hstep, ?_, ?_⟩, ?_⟩
        · exact M.mono.trans ⟨rfl, rfl, rfl, Nat.le_refl _, fun B hB => ⟨(h3 B).1 hB, rfl⟩, fun B _ hB => ⟨(h5 B).2 hB, rfl⟩, fun B i o hB => (h6 B _ o).1 hB⟩
        · intro B q o hq hL
          by_cases hqs : q.k = .s i
          · exact absurd hqs (h7 B q o hL)
          · exact M.rows B q o hq ((h4 B q o hqs (by intro e; rw [e] at hq; simp [Key.isPl] at hq)).2 hL)
        · intro B q o hq _ hL
          by_cases hqm : q.k = .h m
          · exact absurd hqm (hm B q o hL)
          · exact (h4 B q o (by intro e; rw [e] at hq; simp [Key.isPl] at hq) hqm).1 hL
        · intro B q o hq hqm hL
          exact (h4 B q o (by intro e; rw [e] at hq; simp [Key.isPl] at hq) hqm).2 hL
        · have h0 := R0.slot i
          show LimV nm w0 L0 S0.γ w L' _ m (S0.E (.s i)) (a.tmps.getD i undef)
          generalize a.tmps.getD i undef = v0 at *
          cases hv : S0.E (.s i) with
          | one c =>
            rw [hv] at h2 h0
            cases h2 with
            | one h2 =>
              cases h0 with
              | one h0 =>
                cases c with
                | view => exact h0.any rfl _ _
                | _ => exact h2
          | agg cs =>
            rw [hv] at h2 h0
            cases h2 with
            | @agg _ vs hl h2 =>
              refine ⟨vs, rfl, hl, ?_⟩
              intro j c u g1 g2
              cases h0 with
              | agg hl0 h0 =>
                cases c with
                | view => exact (h0 j _ u g1 g2).any rfl _ _
                | _ => exact h2 j _ u g1 g2
          | tup vs => rw [hv] at h2; exact h2
      · have hown1 : (S0.E (.s i)).own = false := by simpa using hown
        have hown' : (S0.get (.s i)).v.own = false := hown1
        simp only [hown', Bool.false_eq_true, if_false, Option.some.injEq] at hr
        subst hr
        exact ⟨L, Out.refl M _ m, LimV.of_rep M.stp (R0.slot i) hown'⟩
  | s i =>
    simp only [tk, Q.run_bind] at hr
    cases hv : (rd (.s i)).run S0 with
    | none => simp [hv] at hr
    | some v =>
      simp only [hv, Option.bind_some, Q.run_pure, Option.some.injEq] at hr
      subst hr
      exact ⟨L, Out.refl M _ m, reads v hv⟩
  | c cv =>
    simp only [tk, Q.run_bind] at hr
    cases hv : (rd (.c cv)).run S0 with
    | none => simp [hv] at hr
    | some v =>
      simp only [hv, Option.bind_some, Q.run_pure, Option.some.injEq] at hr
      subst hr
      exact ⟨L, Out.refl M _ m, reads v hv⟩
  | f n =>
    simp only [tk, Q.run_bind] at hr
    cases hv : (rd (.f n)).run S0 with
    | none => simp [hv] at hr
    | some v =>
      simp only [hv, Option.bind_some, Q.run_pure, Option.some.injEq] at hr
      subst hr
      exact ⟨L, Out.refl M _ m, reads v hv⟩

theorem γ_wrs_none {S : St} : ∀ {ws : List Wr} {k : Key}, getWr ws k = none → (S.wrs ws).γ k = S.γ k
  | [], _, _ => rfl
  | x :: t, k, h => by
    simp only [getWr] at h
    by_cases hk : x.k = k
    · simp [hk] at h
    · simp only [hk, if_false] at h
      simp only [St.wrs, St.γ_wr, hk, if_false]
      exact γ_wrs_none h

theorem fresh_γ {S : St} {ws : List Wr} {k : Key} (h : fresh ws k = true) : (S.wrs ws).γ k = S.γ k ∧ (S.wrs ws).γ (.a k) = S.γ (.a k) ∧ (S.wrs ws).E k = S.E k := by
  simp only [fresh, Bool.and_eq_true, Option.isNone_iff_eq_none] at h
  exact ⟨γ_wrs_none h.1, γ_wrs_none h.2, by rw [getWr_E, h.1]; rfl⟩

/-- Labels of what is under way may turn. -/
theorem Rel.turnH {S : St} (h : Rel nm N S a w L) {L' : LabF} (himm : ∀ B, L B = some .imm → L' B = some .imm)
    (hrow : ∀ B q o, q.k.isPl = true → (L B = some (.row q o) → L' B = some (.row q o)))
    (hbox : ∀ B r o, L' B = some (.box r o) ↔ L B = some (.box r o)) (hd : ∀ B l, L' B = some l → ∃ l0, L B = some l0) (hri : RowInj L') : Rel nm N S a w L' := by
  have hst : Step w w L L' S.γ S.γ := by
    refine ⟨fun B hB => ⟨himm B hB, rfl⟩, fun _ => Nat.le_refl _, ?_, fun _ _ _ _ _ _ _ => rfl, fun B r o _ hB => (hbox B r o).2 hB⟩
    intro B q o hq _ hB
    exact ⟨hrow B q o hq hB, fun cur e fz hc => ⟨cur, hc, rfl⟩⟩
  refine ⟨h.size, h.defers, ?_, ?_, h.bone, h.bound, fun r hg hr => let ⟨B, o, cur, e, fz, h1, h2, h3, h4⟩ := h.room r hg hr; ⟨B, o, cur, e, fz, (hbox _ _ _).2 h1, h2, h3, h4⟩, ?_, hri, ?_⟩
  · intro i
    refine (h.slot i).step hst ?_
    intro B q o hq hB
    refine ⟨?_, rfl⟩
    rw [← hq, Place.at_self]
    exact hrow B q o (by rw [hq]; rfl) hB
  · intro r c x hx hxd
    exact (h.cell r c x hx hxd).step hst (fun B q o hq hB => ⟨hrow B q o (by rw [hq]; rfl) hB, rfl⟩) (fun B o hB => ⟨(hbox _ _ _).2 hB, fun cur e fz hc => ⟨cur, hc, rfl, rfl⟩⟩)
  · intro B l hB
    obtain ⟨l0, h0⟩ := hd B l hB
    exact h.dom B l0 h0
  · intro B B' r o o' h1 h2
    exact h.boxInj B B' r o o' ((hbox _ _ _).1 h1) ((hbox _ _ _).1 h2)

theorem Place.app_self (pl : Place) : (⟨pl.k, pl.j, []⟩ : Place).app pl.p = pl := by cases pl; simp [Place.app]

theorem Mid.at_own (M : Mid nm N S0 w0 L0 ws a w L) {pl : Place} (hk : pl.k.isPl = true) {x : D} {sz : Nat} {rows : List (List D)}
    (hE : ((S0.wrs ws).E pl.k).cells[pl.j]? = some (.d x)) (hn : navD x pl.p = some (.sl .own sz rows)) : ∃ u, RepD w L pl (.sl .own sz rows) u := by
  obtain ⟨u, hu⟩ := M.rel.cellRep hk hE
  obtain ⟨u', hu'⟩ := hu.nav pl.p hn
  rw [Place.app_self] at hu'
  exact ⟨u', hu'⟩

theorem under_pl {t q : Place} (ht : t.k.isPl = true) (hq : q.k.isPl = false) : ¬ Under t q := by
  intro h
  rw [h.key.1, ht] at hq
  cases hq

theorem Out.freeze (M : Mid nm N S0 w0 L0 ws a w L) {pl : Place} (hk : pl.k.isPl = true) {x : D} {sz : Nat} {rows : List (List D)}
    (hE : ((S0.wrs ws).E pl.k).cells[pl.j]? = some (.d x)) (hn : navD x pl.p = some (.sl .own sz rows)) (m : Nat) :
    Out nm N S0 w0 L0 ws (setWr ws pl.k (((S0.wrs ws).E pl.k).setCell pl.j (.d (setD x pl.p (.sl (.im false) sz (plainRs rows)))))) a w L (freezeL pl L) (fun _ => True) m := by
  refine ⟨M.freeze hk hE hn, ?_, fun B q o hq _ hL => freezeL_row hL (under_pl hk hq), fun B q o _ _ hL => (freezeL_row' hL).1⟩
  show Step w w L _ (S0.wrs ws).γ ((S0.wrs ws).wr { k := pl.k, v := _ }).γ
  rw [γ_bump]
  refine ⟨fun B hB => ⟨freezeL_imm hB, rfl⟩, bump_le _ _, ?_, fun _ _ _ _ _ _ _ => rfl, fun B r o _ hB => freezeL_box.2 hB⟩
  intro B q o hq hγ hL
  exact ⟨freezeL_row hL (fun hu => bump_ne hγ hu.key.1), fun cur e fz hB => ⟨cur, hB, rfl⟩⟩

/-- What is fit to be stored. -/
theorem st_rep (M : Mid nm N S0 w0 L0 ws a w L) {m j : Nat} {c : C} {v : Value} (hc : LimC nm w0 L0 S0.γ w L (S0.wrs ws).γ m j c v) {r : C × List Wr}
    (hr : (st ws c).run S0 = some r) :
    ∃ L', Out nm N S0 w0 L0 ws r.2 a w L L' (fun q => ¬ (q.k = .h m ∧ q.j = j)) m ∧ RepC nm w L' (S0.wrs r.2).γ (.h m) j r.1 v := by
  have triv : ∀ c0 : C, st ws c0 = pure (c0, ws) → LimC nm w0 L0 S0.γ w L (S0.wrs ws).γ m j c0 v → (∀ pl g sz off len, c0 ≠ .view pl g sz off len) → (st ws c0).run S0 = some r →
      ∃ L', Out nm N S0 w0 L0 ws r.2 a w L L' (fun q => ¬ (q.k = .h m ∧ q.j = j)) m ∧ RepC nm w L' (S0.wrs r.2).γ (.h m) j r.1 v := by
    intro c0 h0 h1 hnv h2
    rw [h0] at h2
    simp only [Q.run_pure, Option.some.injEq] at h2
    subst h2
    refine ⟨L, Out.refl M _ m, ?_⟩
    cases c0 with
    | view pl g sz off len => exact absurd rfl (hnv pl g sz off len)
    | _ => exact h1
  cases c with
  | view pl g sz off len =>
    simp only [st, Q.run_bind] at hr
    cases ho : (ownAt ws pl g sz).run S0 with
    | none => simp [ho] at hr
    | some e =>
      obtain ⟨e, x, rows⟩ := e
      obtain ⟨rfl, hg, hE, hn⟩ := ownAt_run ho
      simp only [ho, Option.bind_some, Q.run_bind, Q.run_guard] at hr
      by_cases hle : off + len ≤ rows.length
      · simp only [decide_eq_true hle, if_true, Option.bind_some, Q.run_pure, Option.some.injEq] at hr
        subst hr
        cases hc with
        | view hv hh hgle hV =>
          obtain ⟨u, hu⟩ := M.at_own hh hE hn
          refine ⟨freezeL pl L, (Out.freeze M hh hE hn m).weaken (fun _ _ => trivial), .d (.plain ?_)⟩
          exact viewPlain M.inj0 (fun B o hL => M.rows B pl o hh hL) hu (hV hg) hle
      · simp [hle] at hr
  | appd pl g aa sz rows =>
    simp only [st, Q.run_bind] at hr
    cases ho : (ownAt ws pl g sz).run S0 with
    | none => simp [ho] at hr
    | some e =>
      obtain ⟨e, x, old⟩ := e
      obtain ⟨rfl, hg, hE, hn⟩ := ownAt_run ho
      simp only [ho, Option.bind_some, Q.run_bind, Q.run_at, Q.run_guard] at hr
      cases hgd : ((S0.get (.a pl.k)).g == aa && fresh ws pl.k) with
      | false => simp [hgd] at hr
      | true =>
        simp only [hgd, if_true, Option.bind_some, Q.run_pure, Option.some.injEq] at hr
        subst hr
        simp only [Bool.and_eq_true, beq_iff_eq] at hgd
        obtain ⟨g1, g2, _⟩ := fresh_γ (S := S0) hgd.2
        cases hc with
        | appd hv hh hgle hale hV =>
          have hA := hV (by rw [g1]; exact hg) (by rw [g2]; exact hgd.1.symm)
          have O1 := Out.freeze M hh hE hn m
          generalize hws : setWr ws pl.k (((S0.wrs ws).E pl.k).setCell pl.j (.d (setD x pl.p (.sl (.im false) sz (plainRs old))))) = ws1 at *
          have hnu : ∀ {q : Place}, q.k.isPl = true → ¬ Under ⟨.h m, j, []⟩ q := by
            intro q hq hu; rw [hu.key.1] at hq; simp [Key.isPl] at hq
          have hst2 : Step w w (freezeL pl L) (freezeL ⟨.h m, j, []⟩ (freezeL pl L)) (S0.wrs ws1).γ (S0.wrs ws1).γ := by
            refine ⟨fun B hB => ⟨freezeL_imm hB, rfl⟩, fun _ => Nat.le_refl _, ?_, fun _ _ _ _ _ _ _ => rfl, fun B r o _ hB => freezeL_box.2 hB⟩
            intro B q o hq _ hL
            exact ⟨freezeL_row hL (hnu hq), fun cur e fz hB => ⟨cur, hB, rfl⟩⟩
          have M2 : Mid nm N S0 w0 L0 ws1 a w (freezeL ⟨.h m, j, []⟩ (freezeL pl L)) := by
            refine ⟨O1.mid.rel.turnH (fun B hB => freezeL_imm hB) (fun B q o hq hL => freezeL_row hL (hnu hq)) (fun B r o => freezeL_box) (fun B l hB => freezeL_dom hB) (freezeL_inj O1.mid.rel.rowInj), O1.mid.stp.trans hst2, O1.mid.mono.trans (freezeL_mono _), ?_, O1.mid.heap, O1.mid.inj0, fun B r o hB => freezeL_box.2 (O1.mid.boxes B r o hB)⟩
            intro B q o hq hL
            exact O1.mid.rows B q o hq (freezeL_row' hL).1
          refine ⟨_, ⟨M2, O1.stp.trans hst2, ?_, ?_⟩, ?_⟩
          · intro B q o hq hK hL
            exact freezeL_row (O1.keepH B q o hq trivial hL) (fun hu => hK hu.key)
          · intro B q o hq hqm hL
            exact O1.onlyH B q o hq hqm (freezeL_row' hL).1
          · refine .d (.plain ?_)
            rcases hA with ⟨rfl, a0, rfl⟩ | ⟨B, o, cap, cur, e, fz, n0, val, rfl, hsz, hL, hB, hfz, hlens, hcap, hroom, hval, hd⟩
            · simp only [plainRs]; exact .plE
            · have himm : freezeL ⟨.h m, j, []⟩ (freezeL pl L) B = some .imm := by
                rcases hL with hL | hL
                · exact freezeL_imm (freezeL_under hL (Under.refl _))
                · by_cases hu : Under pl ⟨.h m, j, []⟩
                  · exact freezeL_imm (freezeL_under hL hu)
                  · exact freezeL_under (freezeL_row hL hu) (Under.refl _)
              rw [← plainRs_length rows]
              cases hrows : rows with
              | nil => simp only [plainRs, List.length_nil]; exact .plE
              | cons r0 t0 =>
                rw [← hrows]
                refine .pl (cur := cur) (e := e) (fz := fz) val (by rw [hrows]; simp [plainRs]) hsz (by rw [plainRs_length]; exact hcap) himm hB ?_ ?_ ?_
                · intro r hr'
                  rw [plainRs_eq] at hr'
                  obtain ⟨r1, h1, rfl⟩ := List.mem_map.1 hr'
                  simpa using hlens r1 h1
                · intro i c x hx
                  rw [cellOf_plain] at hx
                  cases hy : cellOf rows i c with
                  | none => simp [hy] at hx
                  | some y => exact hval i c y hy
                · intro i c x hx
                  rw [cellOf_plain] at hx
                  cases hy : cellOf rows i c with
                  | none => simp [hy] at hx
                  | some y =>
                    simp only [hy, Option.map_some, Option.some.injEq] at hx
                    subst hx
                    refine RepD.freeze (fun q => Under pl q ∨ Under ⟨.h m, j, []⟩ q) (fun q i c h => Or.imp (fun h => h.sub i c) (fun h => h.sub i c) h) (fun B hB => ⟨freezeL_imm (freezeL_imm hB), rfl⟩) ?_ (hd i c y hy) ?_
                    · intro B q o hq hL
                      refine ⟨?_, rfl⟩
                      by_cases hq1 : Under pl q
                      · exact freezeL_imm (freezeL_under hL hq1)
                      · exact freezeL_under (freezeL_row hL hq1) (hq.resolve_left hq1)
                    · split
                      · exact .inl ((Under.refl pl).sub i c)
                      · exact .inr ((Under.refl _).sub i c)
  | eptr => simp [st] at hr
  | dead => simp [st] at hr
  | d x => exact triv _ rfl hc (by simp) hr
  | ptr r g c => exact triv _ rfl hc (by simp) hr
  | pp cells => exact triv _ rfl hc (by simp) hr
  | fn f b d => exact triv _ rfl hc (by simp) hr
  | nilp => exact triv _ rfl hc (by simp) hr
  | nilf => exact triv _ rfl hc (by simp) hr
  | nili => exact triv _ rfl hc (by simp) hr
  | ifc => exact triv _ rfl hc (by simp) hr
end
end Go.Abs
