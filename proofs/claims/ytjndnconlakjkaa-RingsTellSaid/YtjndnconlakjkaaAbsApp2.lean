/- append: the core. -/
import Derived.Test.YtjndnconlakjkaaAbsApp
set_option linter.unusedVariables false
set_option linter.unusedSimpArgs false
namespace Go.Abs
section
variable {nm : FuncId → Option Nat} {N : Nat} {S0 : St} {w0 : World} {L0 : LabF} {ws : List Wr} {a : Act} {w : World} {L : LabF} {P : Program}

/-- What is known of the types of an append. -/
structure AppT (P : Program) (sz bytes : Nat) (t u e : TypeId) (i : TypeInfo) (d : TypeDesc) (z : Value) : Prop where
  ht : P.underlying t = some (.slice e)
  hu : P.underlying u = some d
  hd : ∀ k, d ≠ .int k
  hi : P.info? e = some i
  hz : i.zero = some z
  size : i.size = sz
  zsize : z.cells.size = sz
  pos : 0 < sz
  hby : i.bytes = bytes
  bytes0 : bytes ≠ 0

theorem cell?_of {B o : Nat} {cur : Array Value} {e : TypeId} {fz : Nat × Nat} (h : w.heap[B]? = some (.cells cur e fz)) : w.cell? ⟨B, o, none⟩ = cur[o]? := by
  simp [World.cell?, h]
theorem frozen?_of {B o : Nat} {cur : Array Value} {e : TypeId} {fz : Nat × Nat} (h : w.heap[B]? = some (.cells cur e fz)) (hf : unfroz cur.size fz) (ho : o < cur.size) : w.frozen? ⟨B, o, none⟩ = false := by
  have := hf o ho
  obtain ⟨lo, hi⟩ := fz
  simp only at this
  simp only [World.frozen?, h]
  cases hx : decide (lo ≤ o) with
  | false => rfl
  | true =>
    cases hy : decide (o < hi) with
    | false => rfl
    | true => exact absurd ⟨by simpa using hx, by simpa using hy⟩ this

theorem add_off (B o n : Nat) : (⟨B, o, none⟩ : Addr).add n = ⟨B, o + n, none⟩ := by unfold Addr.add; split <;> simp_all

/-- Reading the cells of a row of memory. -/
theorem read_cells {B o n : Nat} {cur : Array Value} {e : TypeId} {fz : Nat × Nat} (h : w.heap[B]? = some (.cells cur e fz)) (hn : o + n ≤ cur.size) :
    (loadCells ⟨B, o, none⟩ n).run P w = .ok (cur.extract o (o + n)) w := by
  rw [run_loadCells w ⟨B, o, none⟩ n (fun j => cur.getD (o + j) undef)]
  · congr 1
    apply Array.ext
    · simp; omega
    · intro i h1 h2
      simp only [List.size_toArray, List.length_map, List.length_range] at h1
      have : o + i < cur.size := by omega
      simp [Array.getD, this]
  · intro j hj
    have : o + j < cur.size := by omega
    rw [add_off, cell?_of h]
    simp [Array.getD, this]

theorem drop_cont {H : Place} {f : Place → Option Place} {rows : List (List D)} {pl : Place} {n0 : Nat} {val : Nat → Nat → Value} (hf : ∀ q : Place, q ≠ H → f q = some q) (hH : H.p = [])
    (h : ∀ i c x, cellOf rows i c = some x → RepD w L ((if i < n0 then pl else H).sub i c) x (val i c)) (hpl : pl.k ≠ H.k ∨ pl = H) :
    ∀ i c x, cellOf rows i c = some x → RepD w (relab f L) ((if i < n0 then pl else H).sub i c) x (val i c) := by
  intro i c x hx
  refine RepD.move id (fun q => q ≠ H ∧ (q.p ≠ [] ∨ q.k ≠ H.k)) (fun q i c h => ⟨fun e => ?_, .inl (by simp [Place.sub])⟩) (fun _ _ _ _ => rfl) (fun B hB => ⟨relab_imm.2 hB, rfl⟩)
    (fun B q o hq hL => ⟨relab_of_row hL (hf q hq.1), rfl⟩) (h i c x hx) ?_
  · have := congrArg Place.p e
    rw [hH] at this
    simp [Place.sub] at this
  · refine ⟨fun e => ?_, .inl (by simp [Place.sub])⟩
    have := congrArg Place.p e
    rw [hH] at this
    simp [Place.sub] at this

theorem zeroCells_size (z : Array Value) (n : Nat) : (Builtin.zeroCells z n).size = n * z.size := by simp [Builtin.zeroCells]

theorem app_core {S : St} (R : Rel nm N S a w L) {m m2 : Nat} (hne : m ≠ m2) {pl : Place} {sz bytes : Nat} {rows src : List (List D)} {v x : Value} {t u ty e : TypeId} {i : TypeInfo} {d : TypeDesc} {z : Value}
    (T : AppT P sz bytes t u e i d z) (A : AppAt w L pl sz rows ⟨.h m, 0, []⟩ v ∨ (rows = [] ∧ src ≠ [] ∧ v = .slice none 0 0))
    (hpl : pl = ⟨.h m, 0, []⟩ ∨ (pl.k.isPl = true ∧ ∃ x rows0, (S.E pl.k).cells[pl.j]? = some (.d x) ∧ navD x pl.p = some (.sl .own sz rows0) ∧ rows0.length ≤ rows.length))
    {news : Array Value} {val2 : Nat → Nat → Value} (hx : Src P sz w x src.length news) (hsl : ∀ r ∈ src, r.length = sz) (hc2 : Cont w L ⟨.h m2, 0, []⟩ src val2) (hl2 : Lies src sz 0 news val2)
    (hb : (rows.length + src.length) * bytes ≤ 140737488355328) :
    ∃ v' w' L', (Builtin.append_ #[t, u] ty #[v, x]).run P w = .ok v' w' ∧ Mono w w' L L' ∧ AppAt w' L' pl sz (rows ++ src) ⟨.h m, 0, []⟩ v' ∧ v'.oneCell' = true ∧
      (pl = ⟨.h m, 0, []⟩ → Rel nm N S a w' L') ∧ (pl.k.isPl = true → Rel nm N (S.wr { k := .a pl.k, v := V.dead }) a w' L') := by
  obtain ⟨ht, hu, hd, hi, hz, rfl, hzs, hsz, rfl, hb0⟩ := T
  have hplk : pl.k.isPl = true ∨ pl = ⟨.h m, 0, []⟩ := hpl.elim .inr (fun h => .inl h.1)
  have hsrclen : (rows ++ src).length = rows.length + src.length := List.length_append
  -- a new block
  have fresh : ∀ (b : Option Addr) (cap : Nat) (olds : Array Value) (n0 : Nat) (val : Nat → Nat → Value), v = .slice b rows.length cap → cap < rows.length + src.length → olds.size = rows.length * i.size →
      (∀ w' : World, w'.heap = w.heap → (Builtin.firstCells i.size rows.length (.slice b rows.length cap)).run P w' = .ok olds w') → (∀ r ∈ rows, r.length = i.size) →
      Lies rows i.size 0 olds val → (∀ i c x, cellOf rows i c = some x → RepD w L ((if i < n0 then pl else ⟨.h m, 0, []⟩).sub i c) x (val i c)) →
      ∃ v' w' L', (Builtin.append_ #[t, u] ty #[v, x]).run P w = .ok v' w' ∧ Mono w w' L L' ∧ AppAt w' L' pl i.size (rows ++ src) ⟨.h m, 0, []⟩ v' ∧ v'.oneCell' = true ∧
      (pl = ⟨.h m, 0, []⟩ → Rel nm N S a w' L') ∧ (pl.k.isPl = true → Rel nm N (S.wr { k := .a pl.k, v := V.dead }) a w' L') := by
    intro b cap olds n0 val hv hcap hos hro hrl hlo hcr
    subst hv
    have hrun := run_append_new (ty := ty) (w := w) ht hu hd hi hz hx hcap hro hb0 hb
    have hcont := app_cont (w := w) (L := L) hplk hne hcr hc2 (fun i c x h => (cellOf_lt hrl h).1)
    let f : Place → Option Place := fun q => if q = ⟨.h m, 0, []⟩ then none else some q
    have hfne : ∀ q : Place, q ≠ ⟨.h m, 0, []⟩ → f q = some q := fun q hq => by simp only [f]; rw [if_neg hq]
    have hfinj : ∀ q q' t, f q = some t → f q' = some t → q = q' := by
      intro q q' t h1 h2
      simp only [f] at h1 h2
      split at h1
      · cases h1
      · split at h2
        · cases h2
        · simp only [Option.some.injEq] at h1 h2; rw [h1, h2]
    have hcont2 := drop_cont (H := ⟨.h m, 0, []⟩) hfne rfl hcont (hplk.elim (fun h => .inl (fun e => by rw [e] at h; simp [Key.isPl] at h)) .inr)
    have hrel : ∀ {S' : St}, Rel nm N S' a w L → Rel nm N S' a w (relab f (relab (srcTo m m2 rows.length) L)) := fun R' =>
      (R'.relabH (fun q hq => srcTo_fix hq) (fun q q' t h1 h2 => srcTo_inj hne h1 h2)).relabH (fun q hq => hfne q (fun e => by rw [e] at hq; simp [Key.isPl] at hq)) hfinj
    have hge := grownCap_ge w (rows.length + src.length) cap e
    have hroomC : ∀ {S' : St}, Rel nm N S' a w L → Rel nm N S' a (w.drew.alloc (.cells (olds ++ news ++ Builtin.zeroCells z.cells (grownCap w (rows.length + src.length) cap e - (rows.length + src.length))) e))
        ((relab f (relab (srcTo m m2 rows.length) L)).put w.heap.size (.row ⟨.h m, 0, []⟩ 0)) := fun R' =>
      (hrel R').drew.allocRow (fun B o hB => by
        obtain ⟨q0, _, h2⟩ := relab_row hB
        simp only [f] at h2
        split at h2
        · cases h2
        · rename_i h3; simp only [Option.some.injEq] at h2; exact h3 h2) _ _
    have hD := (hrel R).drew.dom
    refine ⟨_, _, (relab f (relab (srcTo m m2 rows.length) L)).put w.heap.size (.row ⟨.h m, 0, []⟩ 0), hrun, ?_, ?_, rfl, fun _ => hroomC R, fun _ => hroomC (R.kill (.a pl.k) (fun r e => by cases e))⟩
    · exact ((relab_mono _).trans (relab_mono _)).trans ((Mono.drew _ _).trans (Mono.alloc _ _ hD _ _))
    · refine .inr ⟨w.heap.size, 0, grownCap w (rows.length + src.length) cap e, _, e, (0, 0), min n0 rows.length, fun i c => if i < rows.length then val i c else val2 (i - rows.length) c, by rw [hsrclen], hsz,
        .inr (LabF.put_same _ _ _), heap_alloc_self w.drew _, fun j _ => by simp, ?_, by rw [hsrclen]; exact hge, ?_, ?_, ?_⟩
      · intro r hr
        rcases List.mem_append.1 hr with hr | hr
        · exact hrl r hr
        · exact hsl r hr
      · simp only [Array.size_append, hos, hx.size, zeroCells_size, hzs, Nat.zero_add, ← Nat.add_mul]
        rw [show rows.length + src.length + (grownCap w (rows.length + src.length) cap e - (rows.length + src.length)) = grownCap w (rows.length + src.length) cap e by omega]
        exact Nat.le_refl _
      · intro j c y hy
        rw [cellOf_append] at hy
        simp only [Nat.zero_add]
        by_cases hj : j < rows.length
        · rw [if_pos hj] at hy ⊢
          obtain ⟨_, hc⟩ := cellOf_lt hrl hy
          have hlt := idx_lt hj hc
          rw [Array.getElem?_append_left (by simp; omega), Array.getElem?_append_left (by omega)]
          have := hlo j c y hy
          rwa [Nat.zero_add] at this
        · rw [if_neg hj] at hy ⊢
          obtain ⟨hj2, hc⟩ := cellOf_lt hsl hy
          have hlt := idx_lt hj2 hc
          have he : j * i.size = rows.length * i.size + (j - rows.length) * i.size := by rw [← Nat.add_mul]; congr 1; omega
          rw [Array.getElem?_append_left (by rw [Array.size_append, hos, hx.size]; omega), Array.getElem?_append_right (by omega)]
          have := hl2 (j - rows.length) c y hy
          rwa [Nat.zero_add, show (j - rows.length) * i.size + c = j * i.size + c - olds.size by omega] at this
      · intro j c y hy
        have h0 := hcont2 j c y hy
        have hneB : ∀ B l, (relab f (relab (srcTo m m2 rows.length) L)) B = some l → B ≠ w.heap.size := fun B l hB e => by
          have := hD.new
          simp only [World.size_drew] at this
          rw [e, this] at hB; cases hB
        exact RepD.move (w := w) id (fun _ => True) (fun _ _ _ _ => trivial) (fun _ _ _ _ => rfl) (fun B hB => ⟨by rw [LabF.put_other (hneB B _ hB)]; exact hB, heap_alloc_lt w.drew _ (hneB B _ hB)⟩)
          (fun B q o _ hB => ⟨by rw [LabF.put_other (hneB B _ hB)]; exact hB, heap_alloc_lt w.drew _ (hneB B _ hB)⟩) h0 trivial
  rcases A with (⟨rfl, a0, rfl⟩ | ⟨B, o, cap, cur, e', fz, n0, val, rfl, _, hL, hB, hfz, hlens, hcap, hroom, hval, hd'⟩) | ⟨rfl, hsne, rfl⟩
  · by_cases hn : src.length = 0
    · have hsrc : src = [] := List.length_eq_zero_iff.1 hn
      subst hsrc
      have hrun := run_append_in0 (ty := ty) (w := w) (b := some a0) (sLen := 0) (sCap := 0) ht hu hd hi hx (Nat.le_refl _)
      exact ⟨_, w, L, hrun, Mono.refl _ _, .inl ⟨rfl, a0, rfl⟩, rfl, fun _ => R, fun _ => R.kill (.a pl.k) (fun r e => by cases e)⟩
    · refine fresh (some a0) 0 #[] 0 (fun _ _ => undef) rfl (by simp; omega) (by simp) ?_ (by simp) (fun i c x h => by simp [cellOf] at h) (fun i c x h => by simp [cellOf] at h)
      intro w' hw'
      simp [Builtin.firstCells, loadCells, loadCellsFrom]
  · have hcs : rows.length * i.size ≤ cap * i.size := Nat.mul_le_mul_right _ hcap
    by_cases hfit : rows.length + src.length ≤ cap
    · -- in place
      have hcs2 : (rows.length + src.length) * i.size ≤ cap * i.size := Nat.mul_le_mul_right _ hfit
      rw [Nat.add_mul] at hcs2
      have hrun := run_append_in (ty := ty) (w := w) (B := B) (o := o) (sLen := rows.length) (sCap := cap) ht hu hd hi hx hfit
        (fun j hj => by rw [cell?_of hB]; rw [hx.size] at hj; simp; omega) (fun j hj => frozen?_of hB hfz (by rw [hx.size] at hj; omega))
      obtain ⟨cur', g1, g2, g3, g4, g5⟩ := World.setCells_heap B news.toList (o + rows.length * i.size) w hB
      have hoth : ∀ B', B' ≠ B → (w.setCells B (o + rows.length * i.size) news.toList).heap[B']? = w.heap[B']? := fun B' h => World.setCells_ne B _ _ _ h
      have hcont := app_cont (w := w) (L := L) hplk hne hd' hc2 (fun i c x h => (cellOf_lt hlens h).1)
      have hlab : ∃ q, L B = some (.row q o) := hL.elim (fun h => ⟨_, h⟩) (fun h => ⟨_, h⟩)
      obtain ⟨qB, hLB⟩ := hlab
      have hqB : qB = pl ∨ qB = ⟨.h m, 0, []⟩ := by
        rcases hL with h | h <;> rw [hLB] at h <;> simp only [Option.some.injEq, Lab.row.injEq, and_true] at h
        · exact .inl h
        · exact .inr h
      -- the relation behind the store
      have hgrow : ∀ {S' : St}, qB.k.isPl = false → Rel nm N S' a w L → Rel nm N S' a (w.setCells B (o + rows.length * i.size) news.toList) L := by
        intro S' hq R'
        refine R'.growH ?_ ?_ R'.rowInj R'.boxInj
        · intro B' l hB' hl
          refine ⟨hoth B' (fun e => ?_), hB'⟩
          rw [e, hLB] at hB'
          simp only [Option.some.injEq] at hB'
          have := hl qB o hB'.symm
          rw [hq] at this; cases this
        · intro B' l hB'
          by_cases he : B' = B
          · subst he; exact ⟨_, _, _, g1⟩
          · rw [hoth B' he]; exact R'.dom B' l hB'
      have hR1 : pl = ⟨.h m, 0, []⟩ → Rel nm N S a (w.setCells B (o + rows.length * i.size) news.toList) L := by
        intro hp
        refine hgrow ?_ R
        rcases hqB with rfl | rfl
        · rw [hp]; rfl
        · rfl
      have hR2 : pl.k.isPl = true → Rel nm N (S.wr { k := .a pl.k, v := V.dead }) a (w.setCells B (o + rows.length * i.size) news.toList) L := by
        intro hp
        rcases hqB with rfl | rfl
        · rcases hpl with rfl | ⟨_, x0, rows0, hE, hn, hle⟩
          · simp [Key.isPl] at hp
          · refine R.poke (n := rows.length * i.size) hp hE hn (Nat.mul_le_mul_right _ hle) hLB hB (fun B' l _ h => hoth B' h) g1 g2 g3
        · exact hgrow rfl (R.kill (.a pl.k) (fun r e => by cases e))
      have himm2 : ∀ B', L B' = some .imm → B' ≠ B := fun B' h e => by rw [e, hLB] at h; cases h
      -- the content behind the store: all but the block itself is as it was
      have hneq : ∀ {q : Place} {B' o' : Nat}, L B' = some (.row q o') → q ≠ qB → B' ≠ B := fun h hq e => by
        rw [e, hLB] at h
        simp only [Option.some.injEq, Lab.row.injEq] at h
        exact hq h.1.symm
      refine ⟨_, _, relab (srcTo m m2 rows.length) L, hrun, ?_, ?_, rfl, fun h => (hR1 h).relabH (fun q hq => srcTo_fix hq) (fun q q' t h1 h2 => srcTo_inj hne h1 h2),
        fun h => (hR2 h).relabH (fun q hq => srcTo_fix hq) (fun q q' t h1 h2 => srcTo_inj hne h1 h2)⟩
      · refine Mono.trans (L2 := L) (w2 := w.setCells B (o + rows.length * i.size) news.toList) ?_ (relab_mono _)
        obtain ⟨e1, e2, e3, e4, _⟩ := World.setCells_rest B news.toList (o + rows.length * i.size) w
        refine ⟨e1, e2, e3, by rw [e4]; exact Nat.le_refl _, fun B' h => ⟨h, hoth B' (himm2 B' h)⟩, fun B' _ h => ⟨h, hoth B' (fun e => by rw [e, hLB] at h; cases h)⟩, fun _ _ _ h => h⟩
      · have hkeepB : relab (srcTo m m2 rows.length) L B = some (.row qB o) := by
          refine relab_of_row hLB ?_
          rcases hqB with rfl | rfl
          · rcases hplk with hp | rfl
            · exact srcTo_fix hp
            · unfold srcTo; rw [if_neg (fun e => by simp only [Key.h.injEq] at e; exact hne e.1), if_pos ⟨rfl, rfl⟩]
          · unfold srcTo; rw [if_neg (fun e => by simp only [Key.h.injEq] at e; exact hne e.1), if_pos ⟨rfl, rfl⟩]
        refine .inr ⟨B, o, cap, cur', e', fz, min n0 rows.length, fun i c => if i < rows.length then val i c else val2 (i - rows.length) c, by rw [hsrclen], hsz, ?_, g1, by rw [g2]; exact hfz, ?_, by rw [hsrclen]; exact hfit, by rw [g2]; exact hroom, ?_, ?_⟩
        · rcases hqB with rfl | rfl
          · exact .inl hkeepB
          · exact .inr hkeepB
        · intro r hr
          rcases List.mem_append.1 hr with hr | hr
          · exact hlens r hr
          · exact hsl r hr
        · intro j c y hy
          rw [cellOf_append] at hy
          simp only
          by_cases hj : j < rows.length
          · rw [if_pos hj] at hy ⊢
            obtain ⟨_, hc⟩ := cellOf_lt hlens hy
            have hlt := idx_lt hj hc
            rw [Nat.add_assoc, g3 _ (by omega), ← Nat.add_assoc]
            exact hval j c y hy
          · rw [if_neg hj] at hy ⊢
            obtain ⟨hj2, hc⟩ := cellOf_lt hsl hy
            have hlt := idx_lt hj2 hc
            have he : j * i.size = rows.length * i.size + (j - rows.length) * i.size := by rw [← Nat.add_mul]; congr 1; omega
            have h2 := hl2 (j - rows.length) c y hy
            rw [Nat.zero_add] at h2
            have := g4 ((j - rows.length) * i.size + c) _ (by simpa using h2) (by omega)
            rwa [show o + rows.length * i.size + ((j - rows.length) * i.size + c) = o + j * i.size + c by omega] at this
        · intro j c y hy
          have h0 := hcont j c y hy
          -- the places of what lies in the rows are none of the block's
          refine RepD.move id (fun q => ∃ r s, (q = pl.app (r :: s) ∨ q = ⟨.h m, 0, r :: s⟩)) ?_ (fun _ _ _ _ => rfl) (fun B' hB' => ⟨hB', hoth B' (himm2 B' (relab_imm.1 hB'))⟩) ?_ h0 ?_
          · rintro q i' c' ⟨r, s, h | h⟩
            · exact ⟨r, s ++ [(i', c')], .inl (by rw [h, ← Place.app_sub]; rfl)⟩
            · exact ⟨r, s ++ [(i', c')], .inr (by rw [h]; rfl)⟩
          · rintro B' q o' ⟨r, s, hq⟩ hB'
            refine ⟨hB', hoth B' (fun e => ?_)⟩
            rw [e, hkeepB] at hB'
            simp only [Option.some.injEq, Lab.row.injEq] at hB'
            have hqq : q = qB := hB'.1.symm
            have hplp : ∀ r s, pl.app (r :: s) ≠ pl := fun r s e => by have := congrArg Place.p e; simp [Place.app] at this
            have hHp : ∀ r s, (⟨.h m, 0, r :: s⟩ : Place) ≠ ⟨.h m, 0, []⟩ := fun r s e => by simp at e
            rcases hqB with h1 | h1 <;> rcases hq with h2 | h2
            · exact hplp r s (by rw [← h2, hqq, h1])
            · rcases hplk with h3 | h3
              · have : pl = ⟨.h m, 0, r :: s⟩ := by rw [← h1, ← hqq, h2]
                rw [this] at h3; simp [Key.isPl] at h3
              · exact hHp r s (by rw [← h2, hqq, h1, h3])
            · rcases hplk with h3 | h3
              · have : (pl.app (r :: s)).k = .h m := by rw [← h2, hqq, h1]
                simp only [Place.app] at this
                rw [this] at h3; simp [Key.isPl] at h3
              · exact hplp r s (by rw [← h2, hqq, h1, h3])
            · exact hHp r s (by rw [← h2, hqq, h1])
          · refine ⟨(j, c), [], ?_⟩
            by_cases hj : j < min n0 rows.length
            · rw [if_pos hj]; exact .inl rfl
            · rw [if_neg hj]; exact .inr rfl
    · refine fresh (some ⟨B, o, none⟩) cap (cur.extract o (o + rows.length * i.size)) n0 val rfl (by omega) (by simp; omega) ?_ hlens ?_ hd'
      · intro w' hw'
        simp only [Builtin.firstCells]
        exact read_cells (w := w') (e := e') (fz := fz) (by rw [hw']; exact hB) (by omega)
      · intro j c y hy
        obtain ⟨hj, hc⟩ := cellOf_lt hlens hy
        have hlt := idx_lt hj hc
        have := hval j c y hy
        rw [Nat.zero_add, Array.getElem?_extract]
        rw [if_pos (by omega), ← Nat.add_assoc]
        exact this
  · -- nothing yet
    have hn : 0 < src.length := List.length_pos_iff.2 hsne
    refine fresh none 0 #[] 0 (fun _ _ => undef) rfl (by simp; omega) (by simp) ?_ (by simp) (fun i c x h => by simp [cellOf] at h) (fun i c x h => by simp [cellOf] at h)
    intro w' hw'
    simp [Builtin.firstCells]
end
end Go.Abs
