/- An evaluator of the model's code over plain data, and that what it answers the model does: part 5 of 11. -/
import Derived.Test.YtaifamiafiefkaaGreatDoorAbs3
import Derived.Test.YtaifamiafiefkaaGreatDoorAbs0
set_option linter.unusedVariables false
set_option linter.unusedSimpArgs false
namespace Go.Abs
section
section
variable {nm : FuncId → Option Nat} {N : Nat} {S0 : St} {w0 : World} {L0 : LabF} {ws : List Wr} {a : Act} {w : World} {L : LabF} {P : Program}
structure AppT (P : Program) (sz bytes : Nat) (t u e : TypeId) (i : TypeInfo) (d : TypeDesc) (z : Value) : Prop where
  ht : P.underlying t = some (.slice e)
  hu : P.underlying u = some d
  hd : ∀ k, d ≠ .int k
  hi : P.info? e = some i
  hz : i.zero = some z
  size : i.size = sz
  zsize : z.cells.size = sz
  pos : 0 < sz
  hby : i.bytes ≤ bytes
  bytes0 : i.bytes ≠ 0
  u8 : bytes = 1 → e = 5
theorem cell?_of {B o : Nat} {cur : Array Value} {e : TypeId} {fz : Nat × Nat} (h : w.heap[B]? = some (.cells cur e fz)) : w.cell? ⟨B, o, none⟩ = cur[o]? := by
  simp [World.cell?, h]
theorem frozen?_of {B o : Nat} {cur : Array Value} {e : TypeId} {fz : Nat × Nat} (h : w.heap[B]? = some (.cells cur e fz)) (hf : unfroz cur.size fz) (ho : o < cur.size) : w.frozen? ⟨B, o, none⟩ = false := by
  have := hf o ho
  obtain ⟨lo, hi⟩ := fz
  simp only at this
  simp only [World.frozen?, h]
  cases hx : decide (lo ≤ o) with
  | false => rfl
  | true =>
    cases hy : decide (o < hi) with
    | false => rfl
    | true => exact absurd ⟨by simpa using hx, by simpa using hy⟩ this
theorem add_off (B o n : Nat) : (⟨B, o, none⟩ : Addr).add n = ⟨B, o + n, none⟩ := by unfold Addr.add; split <;> simp_all
theorem read_cells {B o n : Nat} {cur : Array Value} {e : TypeId} {fz : Nat × Nat} (h : w.heap[B]? = some (.cells cur e fz)) (hn : o + n ≤ cur.size) :
    (loadCells ⟨B, o, none⟩ n).run P w = .ok (cur.extract o (o + n)) w := by
  rw [run_loadCells w ⟨B, o, none⟩ n (fun j => cur.getD (o + j) undef)]
  · congr 1
    apply Array.ext
    · simp; omega
    · intro i h1 h2
      simp only [List.size_toArray, List.length_map, List.length_range] at h1
      have : o + i < cur.size := by omega
      simp [Array.getD, this]
  · intro j hj
    have : o + j < cur.size := by omega
    rw [add_off, cell?_of h]
    simp [Array.getD, this]
theorem drop_cont {H : Place} {f : Place → Option Place} {rows : List (List D)} {pl : Place} {n0 : Nat} {val : Nat → Nat → Value} (hf : ∀ q : Place, q ≠ H → f q = some q) (hH : H.p = [])
    (h : ∀ i c x, cellOf rows i c = some x → RepD w L ((if i < n0 then pl else H).sub i c) x (val i c)) (hpl : pl.k ≠ H.k ∨ pl = H) :
    ∀ i c x, cellOf rows i c = some x → RepD w (relab f L) ((if i < n0 then pl else H).sub i c) x (val i c) := by
  intro i c x hx
  refine RepD.move id (fun q => q ≠ H ∧ (q.p ≠ [] ∨ q.k ≠ H.k)) (fun q i c h => ⟨fun e => ?_, .inl (by simp [Place.sub])⟩) (fun _ _ _ _ => rfl) (fun B hB => ⟨relab_imm.2 hB, rfl⟩)
    (fun B q o hq hL => ⟨relab_of_row hL (hf q hq.1), rfl⟩) (h i c x hx) ?_
  · have := congrArg Place.p e
    rw [hH] at this
    simp [Place.sub] at this
  · refine ⟨fun e => ?_, .inl (by simp [Place.sub])⟩
    have := congrArg Place.p e
    rw [hH] at this
    simp [Place.sub] at this
theorem zeroCells_size (z : Array Value) (n : Nat) : (Builtin.zeroCells z n).size = n * z.size := by simp [Builtin.zeroCells]
theorem app_core {S : St} (R : Rel nm N S a w L) {m m2 : Nat} (hne : m ≠ m2) {pl : Place} {sz bytes : Nat} {rows src : List (List D)} {v x : Value} {t u ty e : TypeId} {i : TypeInfo} {d : TypeDesc} {z : Value}
    (T : AppT P sz bytes t u e i d z) (A : AppAt w L pl sz rows ⟨.h m, 0, []⟩ v ∨ (rows = [] ∧ src ≠ [] ∧ v = .slice none 0 0))
    (hpl : pl = ⟨.h m, 0, []⟩ ∨ (pl.k.isPl = true ∧ ∃ x rows0, (S.E pl.k).cells[pl.j]? = some (.d x) ∧ navD x pl.p = some (.sl .own sz rows0) ∧ rows0.length ≤ rows.length))
    {news : Array Value} {val2 : Nat → Nat → Value} (hx : Src P sz w x src.length news) (hsl : ∀ r ∈ src, r.length = sz) (hc2 : Cont w L ⟨.h m2, 0, []⟩ src val2) (hl2 : Lies src sz 0 news val2)
    (hb0 : (rows.length + src.length) * bytes ≤ 140737488355328) (h8 : u8ok bytes src rows.isEmpty = true ∨ (u8ok bytes src false = true ∧ v = .slice none 0 0)) :
    ∃ v' w' L', (Builtin.append_ #[t, u] ty #[v, x]).run P w = .ok v' w' ∧ Mono w w' L L' ∧ AppAt w' L' pl sz (rows ++ src) ⟨.h m, 0, []⟩ v' ∧ v'.oneCell' = true ∧
      (pl = ⟨.h m, 0, []⟩ → Rel nm N S a w' L') ∧ (pl.k.isPl = true → Rel nm N (S.wr { k := .a pl.k, v := V.dead }) a w' L') := by
  obtain ⟨ht, hu, hd, hi, hz, rfl, hzs, hsz, hby, hb1, hu8⟩ := T
  have hb : (rows.length + src.length) * i.bytes ≤ 140737488355328 := Nat.le_trans (Nat.mul_le_mul_left _ hby) hb0
  have new8 : src ≠ [] → U8At (rows ++ src) e := by
    intro hs hn
    have hn : noU8 (rows ++ src) = false := hn.resolve_right fun e => hs (List.append_eq_nil_iff.1 e).2
    obtain ⟨k1, k2⟩ := noU8_false.1 hn
    have hns : noU8 src = false := noU8_false.2 ⟨hs, fun r hr => k2 r (List.mem_append_right _ hr)⟩
    apply hu8
    rcases h8 with h8 | ⟨h8, _⟩ <;> simp only [u8ok, hns, Bool.false_or, beq_iff_eq] at h8 <;> exact h8
  have hplk : pl.k.isPl = true ∨ pl = ⟨.h m, 0, []⟩ := hpl.elim .inr (fun h => .inl h.1)
  have hsrclen : (rows ++ src).length = rows.length + src.length := List.length_append
  have fresh : ∀ (b : Option Addr) (cap : Nat) (olds : Array Value) (n0 : Nat) (val : Nat → Nat → Value), v = .slice b rows.length cap → cap < rows.length + src.length → olds.size = rows.length * i.size →
      (∀ w' : World, w'.heap = w.heap → (Builtin.firstCells i.size rows.length (.slice b rows.length cap)).run P w' = .ok olds w') → (∀ r ∈ rows, r.length = i.size) →
      Lies rows i.size 0 olds val → (∀ i c x, cellOf rows i c = some x → RepD w L ((if i < n0 then pl else ⟨.h m, 0, []⟩).sub i c) x (val i c)) → src ≠ [] →
      ∃ v' w' L', (Builtin.append_ #[t, u] ty #[v, x]).run P w = .ok v' w' ∧ Mono w w' L L' ∧ AppAt w' L' pl i.size (rows ++ src) ⟨.h m, 0, []⟩ v' ∧ v'.oneCell' = true ∧
      (pl = ⟨.h m, 0, []⟩ → Rel nm N S a w' L') ∧ (pl.k.isPl = true → Rel nm N (S.wr { k := .a pl.k, v := V.dead }) a w' L') := by
    intro b cap olds n0 val hv hcap hos hro hrl hlo hcr hs8
    subst hv
    have hrun := run_append_new (ty := ty) (w := w) ht hu hd hi hz hx hcap hro hb1 hb
    have hcont := app_cont (w := w) (L := L) hplk hne hcr hc2 (fun i c x h => (cellOf_lt hrl h).1)
    let f : Place → Option Place := fun q => if q = ⟨.h m, 0, []⟩ then none else some q
    have hfne : ∀ q : Place, q ≠ ⟨.h m, 0, []⟩ → f q = some q := fun q hq => by simp only [f]; rw [if_neg hq]
    have hfinj : ∀ q q' t, f q = some t → f q' = some t → q = q' := by
      intro q q' t h1 h2
      simp only [f] at h1 h2
      split at h1
      · cases h1
      · split at h2
        · cases h2
        · simp only [Option.some.injEq] at h1 h2; rw [h1, h2]
    have hcont2 := drop_cont (H := ⟨.h m, 0, []⟩) hfne rfl hcont (hplk.elim (fun h => .inl (fun e => by rw [e] at h; simp [Key.isPl] at h)) .inr)
    have hrel : ∀ {S' : St}, Rel nm N S' a w L → Rel nm N S' a w (relab f (relab (srcTo m m2 rows.length) L)) := fun R' =>
      (R'.relabH (fun q hq => srcTo_fix hq) (fun q q' t h1 h2 => srcTo_inj hne h1 h2)).relabH (fun q hq => hfne q (fun e => by rw [e] at hq; simp [Key.isPl] at hq)) hfinj
    have hge := grownCap_ge w (rows.length + src.length) cap e
    have hroomC : ∀ {S' : St}, Rel nm N S' a w L → Rel nm N S' a (w.drew.alloc (.cells (olds ++ news ++ Builtin.zeroCells z.cells (grownCap w (rows.length + src.length) cap e - (rows.length + src.length))) e))
        ((relab f (relab (srcTo m m2 rows.length) L)).put w.heap.size (.row ⟨.h m, 0, []⟩ 0)) := fun R' =>
      (hrel R').drew.allocRow (fun B o hB => by
        obtain ⟨q0, _, h2⟩ := relab_row hB
        simp only [f] at h2
        split at h2
        · cases h2
        · rename_i h3; simp only [Option.some.injEq] at h2; exact h3 h2) _ _
    have hD := (hrel R).drew.dom
    refine ⟨_, _, (relab f (relab (srcTo m m2 rows.length) L)).put w.heap.size (.row ⟨.h m, 0, []⟩ 0), hrun, ?_, ?_, rfl, fun _ => hroomC R, fun _ => hroomC (R.kill (.a pl.k) (fun r e => by cases e))⟩
    · exact ((relab_mono _).trans (relab_mono _)).trans ((Mono.drew _ _).trans (Mono.alloc _ _ hD _ _))
    · refine .inr ⟨w.heap.size, 0, grownCap w (rows.length + src.length) cap e, _, e, (0, 0), min n0 rows.length, fun i c => if i < rows.length then val i c else val2 (i - rows.length) c, by rw [hsrclen], hsz,
        .inr (LabF.put_same _ _ _), heap_alloc_self w.drew _, fun j _ => by simp, ?_, by rw [hsrclen]; exact hge, ?_, ?_, ?_, new8 hs8⟩
      · intro r hr
        rcases List.mem_append.1 hr with hr | hr
        · exact hrl r hr
        · exact hsl r hr
      · simp only [Array.size_append, hos, hx.size, zeroCells_size, hzs, Nat.zero_add, ← Nat.add_mul]
        rw [show rows.length + src.length + (grownCap w (rows.length + src.length) cap e - (rows.length + src.length)) = grownCap w (rows.length + src.length) cap e by omega]
        exact Nat.le_refl _
      · intro j c y hy
        rw [cellOf_append] at hy
        simp only [Nat.zero_add]
        by_cases hj : j < rows.length
        · rw [if_pos hj] at hy ⊢
          obtain ⟨_, hc⟩ := cellOf_lt hrl hy
          have hlt := idx_lt hj hc
          rw [Array.getElem?_append_left (by simp; omega), Array.getElem?_append_left (by omega)]
          have := hlo j c y hy
          rwa [Nat.zero_add] at this
        · rw [if_neg hj] at hy ⊢
          obtain ⟨hj2, hc⟩ := cellOf_lt hsl hy
          have hlt := idx_lt hj2 hc
          have he : j * i.size = rows.length * i.size + (j - rows.length) * i.size := by rw [← Nat.add_mul]; congr 1; omega
          rw [Array.getElem?_append_left (by rw [Array.size_append, hos, hx.size]; omega), Array.getElem?_append_right (by omega)]
          have := hl2 (j - rows.length) c y hy
          rwa [Nat.zero_add, show (j - rows.length) * i.size + c = j * i.size + c - olds.size by omega] at this
      · intro j c y hy
        have h0 := hcont2 j c y hy
        have hneB : ∀ B l, (relab f (relab (srcTo m m2 rows.length) L)) B = some l → B ≠ w.heap.size := fun B l hB e => by
          have := hD.new
          simp only [World.size_drew] at this
          rw [e, this] at hB; cases hB
        exact RepD.move (w := w) id (fun _ => True) (fun _ _ _ _ => trivial) (fun _ _ _ _ => rfl) (fun B hB => ⟨by rw [LabF.put_other (hneB B _ hB)]; exact hB, heap_alloc_lt w.drew _ (hneB B _ hB)⟩)
          (fun B q o _ hB => ⟨by rw [LabF.put_other (hneB B _ hB)]; exact hB, heap_alloc_lt w.drew _ (hneB B _ hB)⟩) h0 trivial
  rcases A with (⟨rfl, a0, rfl⟩ | ⟨B, o, cap, cur, e', fz, n0, val, rfl, _, hL, hB, hfz, hlens, hcap, hroom, hval, hd', hA8⟩) | ⟨rfl, hsne, rfl⟩
  · by_cases hn : src.length = 0
    · have hsrc : src = [] := List.length_eq_zero_iff.1 hn
      subst hsrc
      have hrun := run_append_in0 (ty := ty) (w := w) (b := some a0) (sLen := 0) (sCap := 0) ht hu hd hi hx (Nat.le_refl _)
      exact ⟨_, w, L, hrun, Mono.refl _ _, .inl ⟨rfl, a0, rfl⟩, rfl, fun _ => R, fun _ => R.kill (.a pl.k) (fun r e => by cases e)⟩
    · refine fresh (some a0) 0 #[] 0 (fun _ _ => undef) rfl (by simp; omega) (by simp) ?_ (by simp) (fun i c x h => by simp [cellOf] at h) (fun i c x h => by simp [cellOf] at h) (fun e => hn (by rw [e]; rfl))
      intro w' hw'
      simp [Builtin.firstCells, loadCells, loadCellsFrom]
  · have hcs : rows.length * i.size ≤ cap * i.size := Nat.mul_le_mul_right _ hcap
    by_cases hfit : rows.length + src.length ≤ cap
    · -- in place
      have hcs2 : (rows.length + src.length) * i.size ≤ cap * i.size := Nat.mul_le_mul_right _ hfit
      rw [Nat.add_mul] at hcs2
      have hrun := run_append_in (ty := ty) (w := w) (B := B) (o := o) (sLen := rows.length) (sCap := cap) ht hu hd hi hx hfit
        (fun j hj => by rw [cell?_of hB]; rw [hx.size] at hj; simp; omega) (fun j hj => frozen?_of hB hfz (by rw [hx.size] at hj; omega))
      obtain ⟨cur', g1, g2, g3, g4, g5⟩ := World.setCells_heap B news.toList (o + rows.length * i.size) w hB
      have hoth : ∀ B', B' ≠ B → (w.setCells B (o + rows.length * i.size) news.toList).heap[B']? = w.heap[B']? := fun B' h => World.setCells_ne B _ _ _ h
      have hcont := app_cont (w := w) (L := L) hplk hne hd' hc2 (fun i c x h => (cellOf_lt hlens h).1)
      have hlab : ∃ q, L B = some (.row q o) := hL.elim (fun h => ⟨_, h⟩) (fun h => ⟨_, h⟩)
      obtain ⟨qB, hLB⟩ := hlab
      have hqB : qB = pl ∨ qB = ⟨.h m, 0, []⟩ := by
        rcases hL with h | h <;> rw [hLB] at h <;> simp only [Option.some.injEq, Lab.row.injEq, and_true] at h
        · exact .inl h
        · exact .inr h
      have hgrow : ∀ {S' : St}, qB.k.isPl = false → Rel nm N S' a w L → Rel nm N S' a (w.setCells B (o + rows.length * i.size) news.toList) L := by
        intro S' hq R'
        refine R'.growH ?_ ?_ R'.rowInj R'.boxInj
        · intro B' l hB' hl
          refine ⟨hoth B' (fun e => ?_), hB'⟩
          rw [e, hLB] at hB'
          simp only [Option.some.injEq] at hB'
          have := hl qB o hB'.symm
          rw [hq] at this; cases this
        · intro B' l hB'
          by_cases he : B' = B
          · subst he; exact (Array.getElem?_eq_some_iff.1 g1).1
          · exact heap_lt (R'.dom B' l hB') (hoth B' he)
      have hR1 : pl = ⟨.h m, 0, []⟩ → Rel nm N S a (w.setCells B (o + rows.length * i.size) news.toList) L := by
        intro hp
        refine hgrow ?_ R
        rcases hqB with rfl | rfl
        · rw [hp]; rfl
        · rfl
      have hR2 : pl.k.isPl = true → Rel nm N (S.wr { k := .a pl.k, v := V.dead }) a (w.setCells B (o + rows.length * i.size) news.toList) L := by
        intro hp
        rcases hqB with rfl | rfl
        · rcases hpl with rfl | ⟨_, x0, rows0, hE, hn, hle⟩
          · simp [Key.isPl] at hp
          · refine R.poke (n := rows.length * i.size) hp hE hn (Nat.mul_le_mul_right _ hle) hLB hB (fun B' l _ h => hoth B' h) g1 g2 g3
        · exact hgrow rfl (R.kill (.a pl.k) (fun r e => by cases e))
      have himm2 : ∀ B', L B' = some .imm → B' ≠ B := fun B' h e => by rw [e, hLB] at h; cases h
      have hneq : ∀ {q : Place} {B' o' : Nat}, L B' = some (.row q o') → q ≠ qB → B' ≠ B := fun h hq e => by
        rw [e, hLB] at h
        simp only [Option.some.injEq, Lab.row.injEq] at h
        exact hq h.1.symm
      refine ⟨_, _, relab (srcTo m m2 rows.length) L, hrun, ?_, ?_, rfl, fun h => (hR1 h).relabH (fun q hq => srcTo_fix hq) (fun q q' t h1 h2 => srcTo_inj hne h1 h2),
        fun h => (hR2 h).relabH (fun q hq => srcTo_fix hq) (fun q q' t h1 h2 => srcTo_inj hne h1 h2)⟩
      · refine Mono.trans (L2 := L) (w2 := w.setCells B (o + rows.length * i.size) news.toList) ?_ (relab_mono _)
        obtain ⟨e1, e2, e3, e4, _⟩ := World.setCells_rest B news.toList (o + rows.length * i.size) w
        refine ⟨e1, e2, e3, by rw [e4]; exact Nat.le_refl _, fun B' h => ⟨h, hoth B' (himm2 B' h)⟩, fun B' _ h => ⟨h, hoth B' (fun e => by rw [e, hLB] at h; cases h)⟩, fun _ _ _ h => h⟩
      · have hkeepB : relab (srcTo m m2 rows.length) L B = some (.row qB o) := by
          refine relab_of_row hLB ?_
          rcases hqB with rfl | rfl
          · rcases hplk with hp | rfl
            · exact srcTo_fix hp
            · unfold srcTo; rw [if_neg (fun e => by simp only [Key.h.injEq] at e; exact hne e.1), if_pos ⟨rfl, rfl⟩]
          · unfold srcTo; rw [if_neg (fun e => by simp only [Key.h.injEq] at e; exact hne e.1), if_pos ⟨rfl, rfl⟩]
        refine .inr ⟨B, o, cap, cur', e', fz, min n0 rows.length, fun i c => if i < rows.length then val i c else val2 (i - rows.length) c, by rw [hsrclen], hsz, ?_, g1, by rw [g2]; exact hfz, ?_, by rw [hsrclen]; exact hfit, by rw [g2]; exact hroom, ?_, ?_, ?_⟩
        · rcases hqB with rfl | rfl
          · exact .inl hkeepB
          · exact .inr hkeepB
        · intro r hr
          rcases List.mem_append.1 hr with hr | hr
          · exact hlens r hr
          · exact hsl r hr
        · intro j c y hy
          rw [cellOf_append] at hy
          simp only
          by_cases hj : j < rows.length
          · rw [if_pos hj] at hy ⊢
            obtain ⟨_, hc⟩ := cellOf_lt hlens hy
            have hlt := idx_lt hj hc
            rw [Nat.add_assoc, g3 _ (by omega), ← Nat.add_assoc]
            exact hval j c y hy
          · rw [if_neg hj] at hy ⊢
            obtain ⟨hj2, hc⟩ := cellOf_lt hsl hy
            have hlt := idx_lt hj2 hc
            have he : j * i.size = rows.length * i.size + (j - rows.length) * i.size := by rw [← Nat.add_mul]; congr 1; omega
            have h2 := hl2 (j - rows.length) c y hy
            rw [Nat.zero_add] at h2
            have := g4 ((j - rows.length) * i.size + c) _ (by simpa using h2) (by omega)
            rwa [show o + rows.length * i.size + ((j - rows.length) * i.size + c) = o + j * i.size + c by omega] at this
        · intro j c y hy
          have h0 := hcont j c y hy
          refine RepD.move id (fun q => ∃ r s, (q = pl.app (r :: s) ∨ q = ⟨.h m, 0, r :: s⟩)) ?_ (fun _ _ _ _ => rfl) (fun B' hB' => ⟨hB', hoth B' (himm2 B' (relab_imm.1 hB'))⟩) ?_ h0 ?_
          · rintro q i' c' ⟨r, s, h | h⟩
            · exact ⟨r, s ++ [(i', c')], .inl (by rw [h, ← Place.app_sub]; rfl)⟩
            · exact ⟨r, s ++ [(i', c')], .inr (by rw [h]; rfl)⟩
          · rintro B' q o' ⟨r, s, hq⟩ hB'
            refine ⟨hB', hoth B' (fun e => ?_)⟩
            rw [e, hkeepB] at hB'
            simp only [Option.some.injEq, Lab.row.injEq] at hB'
            have hqq : q = qB := hB'.1.symm
            have hplp : ∀ r s, pl.app (r :: s) ≠ pl := fun r s e => by have := congrArg Place.p e; simp [Place.app] at this
            have hHp : ∀ r s, (⟨.h m, 0, r :: s⟩ : Place) ≠ ⟨.h m, 0, []⟩ := fun r s e => by simp at e
            rcases hqB with h1 | h1 <;> rcases hq with h2 | h2
            · exact hplp r s (by rw [← h2, hqq, h1])
            · rcases hplk with h3 | h3
              · have : pl = ⟨.h m, 0, r :: s⟩ := by rw [← h1, ← hqq, h2]
                rw [this] at h3; simp [Key.isPl] at h3
              · exact hHp r s (by rw [← h2, hqq, h1, h3])
            · rcases hplk with h3 | h3
              · have : (pl.app (r :: s)).k = .h m := by rw [← h2, hqq, h1]
                simp only [Place.app] at this
                rw [this] at h3; simp [Key.isPl] at h3
              · exact hplp r s (by rw [← h2, hqq, h1, h3])
            · exact hHp r s (by rw [← h2, hqq, h1])
          · refine ⟨(j, c), [], ?_⟩
            by_cases hj : j < min n0 rows.length
            · rw [if_pos hj]; exact .inl rfl
            · rw [if_neg hj]; exact .inr rfl
        · intro hn
          by_cases hse : src = []
          · rw [hse, List.append_nil] at hn; exact hA8 hn
          · have hn : noU8 (rows ++ src) = false := hn.resolve_right fun e => hse (List.append_eq_nil_iff.1 e).2
            obtain ⟨k1, k2⟩ := noU8_false.1 hn
            by_cases hre : rows = []
            · exact hA8 (.inr hre)
            · exact hA8 (.inl (noU8_false.2 ⟨hre, fun r hr => k2 r (List.mem_append_left _ hr)⟩))
    · refine fresh (some ⟨B, o, none⟩) cap (cur.extract o (o + rows.length * i.size)) n0 val rfl (by omega) (by simp; omega) ?_ hlens ?_ hd' (fun e => by rw [e] at hfit; simp at hfit; omega)
      · intro w' hw'
        simp only [Builtin.firstCells]
        exact read_cells (w := w') (e := e') (fz := fz) (by rw [hw']; exact hB) (by omega)
      · intro j c y hy
        obtain ⟨hj, hc⟩ := cellOf_lt hlens hy
        have hlt := idx_lt hj hc
        have := hval j c y hy
        rw [Nat.zero_add, Array.getElem?_extract]
        rw [if_pos (by omega), ← Nat.add_assoc]
        exact this
  · -- nothing yet
    have hn : 0 < src.length := List.length_pos_iff.2 hsne
    refine fresh none 0 #[] 0 (fun _ _ => undef) rfl (by simp; omega) (by simp) ?_ (by simp) (fun i c x h => by simp [cellOf] at h) (fun i c x h => by simp [cellOf] at h) hsne
    intro w' hw'
    simp [Builtin.firstCells]
end
end
section
def wrsOf (dst : Option Nat) (x : V) (ws : List Wr) : List Wr :=
  match dst with
  | some d => { k := .s d, v := x } :: ws
  | none => ws
def Aft (nm : FuncId → Option Nat) (N : Nat) (S : St) (w0 : World) (L0 : LabF) (a : Act) (dst : Option Nat) (x : V) (ws : List Wr) (v : Value) (w' : World) : Prop :=
  ∃ L', Done nm N (S.wrs (wrsOf dst x ws)) w0 L0 (a.put dst v) w' L'
def OpsTo (P : Program) (a : Act) (w : World) (o : Oper) (R : Value → World → Prop) : Prop :=
  match (execOp a.eval o).run P w with
  | .ok (.value v) w' => R v w'
  | .ok .skip w' => R undef w'
  | .ok (.enter f args) w' => Calls P f args w' fun e w'' => ∃ v, e = .returned v ∧ R v w''
  | .ok (.row row args) w' => Rows P row args w' R
  | _ => False
theorem OpsTo.wp {P : Program} {a : Act} {w : World} {o : Oper} {R : Value → World → Prop} (h : OpsTo P a w o R) {next : Act → World → Prop} {Q : Exit → Act → World → Prop}
    (hr : ∀ v w', R v w' → next (a.put o.dst v) w') : o.wp P a w next Q := by
  unfold OpsTo at h
  unfold Oper.wp
  generalize (execOp a.eval o).run P w = r at h ⊢
  cases r with
  | ok n w' =>
    cases n <;> simp only [Oper.upon] at h ⊢ <;> first
      | exact h.elim
      | exact hr _ _ h
      | exact Rows.mono h (fun v w'' => hr v w'')
      | exact Calls.mono h (fun e w'' => by rintro ⟨v, rfl, hR⟩; exact hr v w'' hR)
  | halt x w' => simp only at h
section
variable {nm : FuncId → Option Nat} {N : Nat} {S : St} {a : Act} {w : World} {L : LabF} {P : Program} {o : Oper}
theorem OpsTo.val {R : Value → World → Prop} {v : Value} {w' : World} (h : (execOp a.eval o).run P w = .ok (.value v) w') (hr : R v w') : OpsTo P a w o R := by
  unfold OpsTo; rw [h]; exact hr
theorem OpsTo.skip {R : Value → World → Prop} {w' : World} (h : (execOp a.eval o).run P w = .ok .skip w') (hr : R undef w') : OpsTo P a w o R := by
  unfold OpsTo; rw [h]; exact hr
def dropH : Place → Option Place := fun q => if q.k.isPl = true then some q else none
theorem dropH_inj {q q' t : Place} (h1 : dropH q = some t) (h2 : dropH q' = some t) : q = q' := by
  unfold dropH at h1 h2
  split at h1
  · split at h2
    · simp only [Option.some.injEq] at h1 h2; rw [h1, h2]
    · cases h2
  · cases h1
theorem Rel.aft {S0 : St} {ws : List Wr} {w' : World} {L' : LabF} {w0 : World} {L0 : LabF} (R : Rel nm N (S0.wrs ws) a w' L') (hm : Mono w0 w' L0 L') {dst : Option Nat} (hd : ∀ d, dst = some d → d < N) {m : Nat} {x : V} {v : Value}
    (hv : RepV nm w' L' (S0.wrs ws).γ (.h m) x v) : Aft nm N S0 w0 L0 a dst x ws v w' := by
  cases dst with
  | some d =>
    obtain ⟨L2, h1, h2, h3, _⟩ := R.slotPut (hd d rfl) hv
    exact ⟨L2, h1, hm.trans h3, h2⟩
  | none =>
    refine ⟨relab dropH L', R.relabH (fun q hq => by simp [dropH, hq]) (fun q q' t h1 h2 => dropH_inj h1 h2), hm.trans (relab_mono _), ?_⟩
    intro B q o hB
    obtain ⟨q0, _, h2⟩ := relab_row hB
    unfold dropH at h2
    split at h2
    · rename_i h3; simp only [Option.some.injEq] at h2; rw [← h2]; exact h3
    · cases h2
theorem execOp_builtin {b : Builtin} {args : Array Operand} {ts : Array TypeId} (ho : o.op = .call ⟨.builtin b, args, ts⟩) (ρ : Operand → Value) :
    execOp ρ o = builtin b ts o.type (args.map fun | .const _ => true | _ => false) (args.map ρ) := by
  unfold execOp
  simp only [ho]
  unfold resolve
  simp only
  rfl
theorem run_v {s : Sem Value} {v : Value} {w' : World} (h : s.run P w = .ok v w') : (do pure (Next.value (← s)) : Sem Next).run P w = .ok (.value v) w' := by
  simp [h]
theorem opVal (R : Rel nm N S a w L) (hd : ∀ d, o.dst = some d → d < N) {x : V} {v : Value} (h : (execOp a.eval o).run P w = .ok (.value v) w) (hv : RepV nm w L S.γ (.h 0) x v) :
    OpsTo P a w o (Aft nm N S w L a o.dst x []) :=
  .val h (Rel.aft (ws := []) R (Mono.refl w L) hd hv)
theorem constC_rep {sz : Nat} {v : Value} {c : C} (h : constC sz v = some c) : (∀ (w : World) (L : LabF) (γ : Key → Nat) (k : Key) (j : Nat), RepC nm w L γ k j c v) ∧ c.own = false := by
  unfold constC at h
  split at h
  · cases h; exact ⟨fun _ _ _ _ _ => .d (.plain .int), rfl⟩
  · cases h; exact ⟨fun _ _ _ _ _ => .d (.plain .bool), rfl⟩
  · cases h; exact ⟨fun _ _ _ _ _ => .d (.plain .str), rfl⟩
  · cases h; exact ⟨fun _ _ _ _ _ => .d (.plain .nil), rfl⟩
  · cases h; exact ⟨fun _ _ _ _ _ => .nilp, rfl⟩
  · cases h; exact ⟨fun _ _ _ _ _ => .nilf, rfl⟩
  · cases h; exact ⟨fun _ _ _ _ _ => .nili, rfl⟩
  · cases h
theorem lookX_rel {t : TypeId} {x : Operand} {X : X} (h : lookX P nm t x = some X) : OpRel nm X x ∧ X.okC = true := by
  cases x with
  | tmp i => simp only [lookX, Option.some.injEq] at h; subst h; exact ⟨.s, rfl⟩
  | const v =>
    simp only [lookX, constV] at h
    cases hc : constC ((elemSz P t).getD 0) v with
    | none => simp [hc] at h
    | some c =>
      simp only [hc, Option.map_some, Option.some.injEq] at h
      subst h
      exact ⟨.c fun w L γ k => .one ((constC_rep hc).1 w L γ k 0), by simp [X.okC, V.own, V.cells, (constC_rep (nm := nm) hc).2]⟩
  | func f =>
    simp only [lookX] at h
    cases hf : nm f with
    | none => simp [hf] at h
    | some n =>
      simp only [hf, Option.bind_some] at h
      split at h
      · rename_i ht; simp only [Option.some.injEq] at h; subst h; exact ⟨.f hf ht, rfl⟩
      · cases h
  | global g => simp [lookX] at h
theorem compX_rel {hh : Hint} {t : TypeId} {x : Operand} {X : X} (h : compX P nm hh t x = some X) : OpRel nm X x ∧ X.okC = true := by
  cases x with
  | tmp i =>
    simp only [compX, Option.some.injEq] at h; subst h
    split
    · exact ⟨.t, rfl⟩
    · exact ⟨.s, rfl⟩
  | const v => exact lookX_rel (P := P) (t := t) h
  | func f => exact lookX_rel (P := P) (t := t) h
  | global g => simp [compX] at h
theorem rd_val (R : Rel nm N S a w L) {x : Operand} {X : X} (h : OpRel nm X x) {v : V} (hr : (rd X).run S = some v) : RepV nm w L S.γ (.h 0) v (a.eval x) := rd_rep R h hr (.h 0)
theorem RepV.one_inv {γ : Key → Nat} {k : Key} {c : C} {v : Value} (h : RepV nm w L γ k (.one c) v) : RepC nm w L γ k 0 c v := by cases h with | one h => exact h
theorem RepC.int_inv {γ : Key → Nat} {k : Key} {j : Nat} {kk : IntKind} {n : Int} {v : Value} (h : RepC nm w L γ k j (.d (.int kk n)) v) : v = .int kk n := by
  cases h with | d h => cases h with | plain h => cases h; rfl
theorem RepC.bool_inv {γ : Key → Nat} {k : Key} {j : Nat} {b : Bool} {v : Value} (h : RepC nm w L γ k j (.d (.bool b)) v) : v = .bool b := by
  cases h with | d h => cases h with | plain h => cases h; rfl
theorem RepC.str_inv {γ : Key → Nat} {k : Key} {j : Nat} {b : List UInt8} {v : Value} (h : RepC nm w L γ k j (.d (.str b)) v) : v = .string ⟨b.toArray⟩ := by
  cases h with | d h => cases h with | plain h => cases h; rfl
theorem asNat_inv {γ : Key → Nat} {k : Key} {x : V} {n : Nat} {v : Value} (h : RepV nm w L γ k x v) (hn : asNat x = some n) : ∃ kk, v = .int kk n := by
  unfold asNat at hn
  split at hn
  · rename_i kk m
    split at hn
    · rename_i h0
      simp only [Option.some.injEq] at hn
      refine ⟨kk, ?_⟩
      rw [h.one_inv.int_inv, ← hn, Int.toNat_of_nonneg h0]
    · cases hn
  · cases hn
theorem Q.run_bind_some {α β : Type} {x : Q α} {f : α → Q β} {r : β} (h : (x >>= f).run S = some r) : ∃ a, x.run S = some a ∧ (f a).run S = some r := by
  rw [Q.run_bind] at h
  cases hx : x.run S with
  | none => simp [hx] at h
  | some a => exact ⟨a, rfl, by simpa [hx] using h⟩
theorem Q.run_guard_some {α : Type} {b : Bool} {f : Unit → Q α} {r : α} (h : (Q.guard b >>= f).run S = some r) : b = true ∧ (f ()).run S = some r := by
  obtain ⟨u, h1, h2⟩ := Q.run_bind_some h
  rw [Q.run_guard] at h1
  split at h1
  · exact ⟨‹_›, h2⟩
  · cases h1
theorem Q.run_ofO_some {α β : Type} {x : Option α} {f : α → Q β} {r : β} (h : (Q.ofO x >>= f).run S = some r) : ∃ y, x = some y ∧ (f y).run S = some r := by
  obtain ⟨u, h1, h2⟩ := Q.run_bind_some h
  rw [Q.run_ofO] at h1
  exact ⟨u, h1, h2⟩
theorem Q.run_at_some {β : Type} {k : Key} {f : Ent → Q β} {r : β} (h : (Q.at_ k >>= f).run S = some r) : (f (S.get k)).run S = some r := by
  obtain ⟨u, h1, h2⟩ := Q.run_bind_some h
  simp only [Q.run_at, Option.some.injEq] at h1
  rw [h1]; exact h2
theorem Q.run_pure_some {α : Type} {x r : α} (h : (pure x : Q α).run S = some r) : r = x := by simpa using h.symm
end
end
section
section
variable {nm : FuncId → Option Nat} {N : Nat} {S : St} {a : Act} {w : World} {L : LabF} {P : Program} {o : Oper} {Cl : Oracle} {d : Nat} {r : V × List Wr}
theorem bytes_size (s : List UInt8) : (⟨s.toArray⟩ : ByteArray).size = s.length := by
  show s.toArray.size = s.length
  simp
theorem ev_nilck (R : Rel nm N S a w L) (hd : ∀ d, o.dst = some d → d < N) {x : Operand} {X : Abs.X} (hx : OpRel nm X x) (ho : o.op = .nilCheck x) (hr : (evOp Cl d (.nilck X)).run S = some r) :
    OpsTo P a w o (Aft nm N S w L a o.dst r.1 r.2) := by
  simp only [evOp] at hr
  obtain ⟨v, h1, h2⟩ := Q.run_bind_some hr
  have hv := rd_val R hx h1
  have run : ∀ (u : Value), a.eval x = u → (∃ ad, u = .pointer (some ad)) ∨ (∃ f b c, u = .func (.func f) b c) → (execOp a.eval o).run P w = .ok (.value (a.eval x)) w := by
    intro u hu h
    rcases h with ⟨ad, rfl⟩ | ⟨f, b, c, rfl⟩ <;> simp [execOp, ho, hu]
  split at h2
  · obtain rfl := Q.run_pure_some h2
    refine opVal R hd (run _ rfl (.inl ?_)) hv
    cases hv.one_inv with | ptr hv => exact hv
  · obtain rfl := Q.run_pure_some h2
    refine opVal R hd (run _ rfl (.inl ?_)) hv
    cases hv.one_inv with | eptr hv => exact hv
  · obtain rfl := Q.run_pure_some h2
    refine opVal R hd (run _ rfl (.inl ?_)) hv
    generalize a.eval x = u at hv
    cases hv.one_inv with | pp => exact ⟨_, rfl⟩
  · obtain ⟨hft, h2⟩ := Q.run_guard_some h2
    have hft := isFn_lt hft
    obtain rfl := Q.run_pure_some h2
    refine opVal R hd (run _ rfl (.inr ?_)) hv
    generalize a.eval x = u at hv
    cases hv.one_inv with
    | fn => exact ⟨_, _, _, rfl⟩
    | fns val hf => exfalso; rcases hf with ⟨h, _⟩ | ⟨h, _⟩ <;> omega
  · cases h2
theorem ev_pick (R : Rel nm N S a w L) (hd : ∀ d, o.dst = some d → d < N) {c x y : Operand} {C' X Y : Abs.X} (hc : OpRel nm C' c) (hx : OpRel nm X x) (hy : OpRel nm Y y) (ho : o.op = .pick c x y) (hr : (evOp Cl d (.pick C' X Y)).run S = some r) :
    OpsTo P a w o (Aft nm N S w L a o.dst r.1 r.2) := by
  simp only [evOp] at hr
  obtain ⟨v, h1, h2⟩ := Q.run_bind_some hr
  have hv := rd_val R hc h1
  split at h2
  · obtain ⟨v2, h3, h4⟩ := Q.run_bind_some h2
    obtain rfl := Q.run_pure_some h4
    exact opVal R hd (by simp [execOp, ho, hv.one_inv.bool_inv, asBool]) (rd_val R hx h3)
  · obtain ⟨v2, h3, h4⟩ := Q.run_bind_some h2
    obtain rfl := Q.run_pure_some h4
    exact opVal R hd (by simp [execOp, ho, hv.one_inv.bool_inv, asBool]) (rd_val R hy h3)
  · cases h2
theorem ev_len (R : Rel nm N S a w L) (hd : ∀ d, o.dst = some d → d < N) {x : Operand} {X : Abs.X} {t : TypeId} {str : Bool} (hx : OpRel nm X x) (ho : o.op = .call ⟨.builtin .len, #[x], #[t]⟩)
    (ht : if str = true then P.underlying t = some .string else ∃ e, P.underlying t = some (.slice e)) (hr : (evOp Cl d (.len str X)).run S = some r) :
    OpsTo P a w o (Aft nm N S w L a o.dst r.1 r.2) := by
  cases str with
  | true =>
    simp only [if_true] at ht
    simp only [evOp] at hr
    obtain ⟨v, h1, h2⟩ := Q.run_bind_some hr
    have hv := rd_val R hx h1
    split at h2
    · rename_i s
      obtain rfl := Q.run_pure_some h2
      refine opVal R hd (v := .int .i64 s.length) ?_ (.one (.d (.plain .int)))
      rw [execOp_builtin ho, show (#[x] : Array Operand).map a.eval = #[a.eval x] from by simp]
      refine run_v ?_
      show (Builtin.len_ #[t] _ #[a.eval x]).run P w = _
      rw [hv.one_inv.str_inv]
      simp [Builtin.len_, run_underlying ht, goInt, bytes_size]
    · cases h2
  | false =>
    simp only [Bool.false_eq_true, if_false] at ht
    obtain ⟨e, ht⟩ := ht
    simp only [evOp] at hr
    obtain ⟨v, h1, h2⟩ := Q.run_bind_some hr
    have hv := rd_val R hx h1
    have run : ∀ (n : Nat), (∃ b c, a.eval x = .slice b n c) → (execOp a.eval o).run P w = .ok (.value (.int .i64 n)) w := by
      rintro n ⟨b, c, hb⟩
      rw [execOp_builtin ho, show (#[x] : Array Operand).map a.eval = #[a.eval x] from by simp]
      refine run_v ?_
      show (Builtin.len_ #[t] _ #[a.eval x]).run P w = _
      rw [hb]
      simp [Builtin.len_, run_underlying ht, goInt]
    split at h2
    · rename_i t' sz rows
      obtain rfl := Q.run_pure_some h2
      refine opVal R hd (run rows.length ?_) (.one (.d (.plain .int)))
      generalize a.eval x = u at hv
      cases hv.one_inv with
      | d h =>
        cases h with
        | plain h =>
          cases h with
          | nil => exact ⟨_, _, rfl⟩
          | plE => exact ⟨_, _, rfl⟩
          | pl => exact ⟨_, _, rfl⟩
        | ownE => exact ⟨_, _, rfl⟩
        | own => exact ⟨_, _, rfl⟩
    · rename_i pl g sz off len
      obtain rfl := Q.run_pure_some h2
      refine opVal R hd (run len ?_) (.one (.d (.plain .int)))
      generalize a.eval x = u at hv
      cases hv.one_inv with
      | view hv => obtain ⟨b, c, rfl, _⟩ := hv; exact ⟨_, _, rfl⟩
    · rename_i t0 f0 l0
      obtain ⟨l', hl, h2⟩ := Q.run_ofO_some h2
      obtain ⟨rfl, rfl, rfl⟩ := C.fn.inj (fnsOf_inv hl)
      obtain rfl := Q.run_pure_some h2
      refine opVal R hd (run l0.length ?_) (.one (.d (.plain .int)))
      obtain ⟨B, o', cap, cur, e', fz, val, hf, _⟩ := hv.one_inv.fns_inv (Nat.le_refl _)
      rcases hf with ⟨_, h, _⟩ | ⟨h, _⟩
      · exact ⟨_, _, h⟩
      · exact absurd h (by decide)
    · cases h2
end
end
section
section
variable {nm : FuncId → Option Nat} {N : Nat} {S : St} {a : Act} {w : World} {L : LabF} {P : Program} {o : Oper} {Cl : Oracle} {d : Nat} {r : V × List Wr}
theorem aggOf_inv {t : TypeId} {n : Nat} {agg : Bool} (h : aggOf P t = some (n, agg)) : ∃ i dd, P.info? t = some i ∧ P.underlying t = some dd ∧ i.size = n ∧ aggD dd = agg := by
  unfold aggOf at h
  split at h
  · rename_i i dd h1 h2
    simp only [Option.some.injEq, Prod.mk.injEq] at h
    exact ⟨i, dd, h1, h2, h.1, h.2⟩
  · cases h
theorem run_isAgg {t : TypeId} {n : Nat} {agg : Bool} (h : aggOf P t = some (n, agg)) (w : World) : (isAgg t).run P w = .ok agg w := by
  obtain ⟨i, dd, h1, h2, h3, h4⟩ := aggOf_inv h
  subst h4
  unfold isAgg
  rw [Sem.run_bind, run_underlying h2, Result.andThen_ok]
  cases dd <;> rfl
theorem run_sizeOf {t : TypeId} {n : Nat} {agg : Bool} (h : aggOf P t = some (n, agg)) (w : World) : (sizeOf t).run P w = .ok n w := by
  obtain ⟨i, dd, h1, h2, h3, h4⟩ := aggOf_inv h
  simp [sizeOf, typeInfo, h1, h3]
theorem run_sizeOf' {t : TypeId} {n : Nat} (h : szOf P t = some n) (w : World) : (sizeOf t).run P w = .ok n w := by
  unfold szOf at h
  cases hi : P.info? t with
  | none => simp [hi] at h
  | some i =>
    simp only [hi, Option.map_some, Option.some.injEq] at h
    simp [sizeOf, typeInfo, hi, h]
def wholeV (agg : Bool) (vs : List Value) : Value := if agg then .agg vs.toArray else vs.headD undef
theorem run_loadVar {t : TypeId} {n : Nat} {agg : Bool} (h : aggOf P t = some (n, agg)) {B o : Nat} {vs : List Value} (hn : vs.length = n) (h1 : agg = false → n = 1) (hc : ∀ j v, vs[j]? = some v → w.cell? ⟨B, o + j, none⟩ = some v) :
    (loadVar t ⟨B, o, none⟩).run P w = .ok (wholeV agg vs) w := by
  unfold loadVar
  rw [Sem.run_bind, run_isAgg h, Result.andThen_ok]
  cases agg with
  | true =>
    have := run_loadCells_list (P := P) w ⟨B, o, none⟩ vs (fun j v hv => by rw [add_off]; exact hc j v hv)
    simp [run_sizeOf h, ← hn, this, wholeV]
  | false =>
    have h1' := h1 rfl
    cases vs with
    | nil => simp at hn; omega
    | cons v t =>
      have := hc 0 v rfl
      simp only [Nat.add_zero] at this
      simp [this, wholeV]
theorem mkV_rep {k : Key} {γ : Key → Nat} {agg : Bool} {cs : List C} {x : V} {vs : List Value} (h : (mkV agg cs).run S = some x) (hl : cs.length = vs.length)
    (hc : ∀ j c v, cs[j]? = some c → vs[j]? = some v → RepC nm w L γ k j c v) : RepV nm w L γ k x (wholeV agg vs) ∧ (agg = false → cs.length = 1) := by
  unfold mkV at h
  cases agg with
  | true =>
    simp only [if_true, Q.run_pure, Option.some.injEq] at h
    subst h
    exact ⟨.agg (by simpa using hl) (fun j c u h1 h2 => hc j c u h1 (by simpa using h2)), by simp⟩
  | false =>
    simp only [Bool.false_eq_true, if_false] at h
    split at h
    · rename_i c
      simp only [Q.run_pure, Option.some.injEq] at h
      subst h
      cases vs with
      | nil => simp at hl
      | cons v t => exact ⟨.one (hc 0 c v rfl rfl), fun _ => rfl⟩
    · simp at h
theorem readCells_inv {r : Root} : ∀ (n c : Nat) {cs : List C}, (readCells r c n).run S = some cs → cs.length = n ∧ ∀ j, j < n → ∃ x, S.E (.b r (c + j)) = .one x ∧ cs[j]? = some (x.look (.b r (c + j)) (S.γ (.b r (c + j))) 0)
  | 0, c, cs, h => by
    simp only [readCells, Q.run_pure, Option.some.injEq] at h
    subst h
    exact ⟨rfl, fun j hj => by omega⟩
  | n + 1, c, cs, h => by
    simp only [readCells] at h
    have h := Q.run_at_some h
    split at h
    · rename_i x hx
      obtain ⟨t, h1, h2⟩ := Q.run_bind_some h
      obtain rfl := Q.run_pure_some h2
      obtain ⟨g1, g2⟩ := readCells_inv n (c + 1) h1
      refine ⟨by simp [g1], fun j hj => ?_⟩
      cases j with
      | zero => exact ⟨x, hx, rfl⟩
      | succ j =>
        obtain ⟨y, g3, g4⟩ := g2 j (by omega)
        refine ⟨y, by rw [show c + (j + 1) = c + 1 + j by omega]; exact g3, ?_⟩
        rw [show c + (j + 1) = c + 1 + j by omega]
        simpa using g4
    · cases h
theorem lookRow_get (pl : Place) (g i : Nat) : ∀ (row : List D) (c j : Nat), (lookRow pl g i c row)[j]? = (row[j]?).map fun x => lookD (pl.sub i (c + j)) g x
  | [], c, j => by simp [lookRow]
  | x :: t, c, 0 => by simp [lookRow]
  | x :: t, c, j + 1 => by
    simp only [lookRow, List.getElem?_cons_succ]
    rw [lookRow_get pl g i t (c + 1) j, show c + 1 + j = c + (j + 1) by omega]
theorem lookRow_length (pl : Place) (g i : Nat) : ∀ (row : List D) (c : Nat), (lookRow pl g i c row).length = row.length
  | [], _ => rfl
  | x :: t, c => by simp [lookRow, lookRow_length pl g i t]
theorem ownAt0 (R : Rel nm N S a w L) {pl : Place} (hk : pl.k.isPl = true) {g sz : Nat} {res : Ent × D × List (List D)} (h : (ownAt [] pl g sz).run S = some res) :
    g = S.γ pl.k ∧ ∃ u, RepD w L pl (.sl .own sz res.2.2) u := by
  obtain ⟨h1, h2, h3, h4⟩ := ownAt_run h
  have M := Mid.init R
  exact ⟨h2, M.at_own hk h3 h4⟩
theorem own_rep {pl : Place} {γ : Key → Nat} {x : D} {v : Value} {k : Key} {j : Nat} (hk : pl.k.isPl = true) (h : RepD w L pl x v) :
    RepC nm w L γ k j (lookD pl (γ pl.k) x) v := by
  have own : ∀ {sz : Nat} {rows : List (List D)} {v : Value}, RepD w L pl (.sl .own sz rows) v → RepC nm w L γ k j (.view pl (γ pl.k) sz 0 rows.length) v := by
    intro sz rows v h
    refine .view h.sliceLike hk (Nat.le_refl _) (fun _ => ?_)
    rcases h.own_inv with ⟨rfl, a, rfl⟩ | ⟨B, o, cap, cur, e, fz, val, rfl, hsz, hL, hB, hfz, hlens, hcap, hroom, hval, hr, hu8⟩
    · exact .inl ⟨rfl, a, rfl⟩
    · exact .inr ⟨B, o, cap, cur, e, fz, by simp, hsz, hL, hB, hfz, hcap, by omega, fun _ h0 => hu8 (.inr (List.length_eq_zero_iff.1 h0))⟩
  cases x with
  | sl t sz rows =>
    cases t with
    | own => exact own h
    | im b => cases h with | plain h => exact .d (.plain h)
  | _ => cases h with | plain h => exact .d (.plain h)
theorem ev_load (R : Rel nm N S a w L) (hd : ∀ d, o.dst = some d → d < N) {x : Operand} {X : Abs.X} {t : TypeId} {n : Nat} {agg : Bool} (hx : OpRel nm X x) (ho : o.op = .load t x) (ht : aggOf P t = some (n, agg))
    (hr : (evOp Cl d (.load n agg X)).run S = some r) : OpsTo P a w o (Aft nm N S w L a o.dst r.1 r.2) := by
  simp only [evOp] at hr
  obtain ⟨v, h1, h2⟩ := Q.run_bind_some hr
  have hv := rd_val R hx h1
  have run : ∀ (B o' : Nat) (vs : List Value), a.eval x = .pointer (some ⟨B, o', none⟩) → vs.length = n → (agg = false → n = 1) → (∀ j v, vs[j]? = some v → w.cell? ⟨B, o' + j, none⟩ = some v) →
      (execOp a.eval o).run P w = .ok (.value (wholeV agg vs)) w := by
    intro B o' vs hb hn h1 hc
    have := run_loadVar ht hn h1 hc
    simp [execOp, ho, hb, Instr.loadAt, Instr.sureAddr, this]
  split at h2
  · -- a box
    rename_i r0 g c
    have h2 := Q.run_at_some h2
    obtain ⟨hg, h2⟩ := Q.run_guard_some h2
    simp only [Bool.and_eq_true, Bool.not_eq_true', beq_iff_eq, decide_eq_true_eq] at hg
    obtain ⟨⟨hG, hg⟩, hcn⟩ := hg
    obtain ⟨cs, h3, h2⟩ := Q.run_bind_some h2
    obtain ⟨x', h4, h2⟩ := Q.run_bind_some h2
    obtain rfl := Q.run_pure_some h2
    obtain ⟨hlen, hcells⟩ := readCells_inv n c h3
    cases hv.one_inv with
    | ptr hv0 hgl hp =>
      obtain ⟨B, o', hB, hval⟩ := hp hg.symm
      by_cases hn0 : n = 0
      · -- no cell
        subst hn0
        have hcs : cs = [] := List.length_eq_zero_iff.1 hlen
        subst hcs
        obtain ⟨hm, hm1⟩ := mkV_rep (nm := nm) (w := w) (L := L) (γ := S.γ) (k := .h 0) (vs := []) h4 rfl (fun j c v h => by simp at h)
        exact opVal R hd (run B (o' + c) [] hval rfl (fun h => by have := hm1 h; simp at this) (fun j v h => by simp at h)) hm
      obtain ⟨B', o'', cur, e, fz, k1, k2, k3, k4⟩ := R.room r0 hG (by have : c + n ≤ boxN (S.E (.r r0)) := hcn; omega)
      obtain rfl := R.boxInj B' B r0 o'' o' k1 hB
      obtain rfl : o'' = o' := by rw [k1] at hB; simpa using hB
      have hcn' : c + n ≤ boxN (S.E (.r r0)) := hcn
      let vs := (List.range n).map fun j => cur.getD (o'' + c + j) undef
      have hvs : ∀ j v, vs[j]? = some v → j < n ∧ cur[o'' + c + j]? = some v := by
        intro j v hjv
        simp only [vs, List.getElem?_map] at hjv
        have hj : j < n := by
          rcases Nat.lt_or_ge j n with h | h
          · exact h
          · simp [List.getElem?_eq_none, h] at hjv
        have hlt : o'' + c + j < cur.size := by omega
        simp [hj, Array.getD, hlt] at hjv
        exact ⟨hj, by simp [hlt, hjv]⟩
      have hvl : vs.length = n := by simp [vs]
      have hm := mkV_rep (nm := nm) (w := w) (L := L) (γ := S.γ) (k := .h 0) (vs := vs) h4 (by rw [hlen, hvl]) (by
        intro j c1 v1 hc1 hv1
        obtain ⟨hj, hcur⟩ := hvs j v1 hv1
        obtain ⟨y, hy1, hy2⟩ := hcells j hj
        rw [hc1] at hy2
        simp only [Option.some.injEq] at hy2
        subst hy2
        by_cases hyd : y = .dead
        · subst hyd; exact .dead
        · have hat := R.cell r0 (c + j) y hy1 hyd
          have : ∃ B o cur e fz v, L B = some (.box r0 o) ∧ w.heap[B]? = some (.cells cur e fz) ∧ unfroz cur.size fz ∧ cur[o + (c + j)]? = some v ∧ RepC nm w L S.γ (.b r0 (c + j)) 0 y v := by
            cases r0 with
            | g i => simp [Root.isG] at hG
            | e i => obtain ⟨B, o, cur, e, fz, v, q1, q2, q3, q4, q5, _⟩ := hat; exact ⟨B, o, cur, e, fz, v, q1, q2, q3, q4, q5⟩
            | l i => obtain ⟨B, o, cur, e, fz, v, q1, q2, q3, q4, q5, _⟩ := hat; exact ⟨B, o, cur, e, fz, v, q1, q2, q3, q4, q5⟩
          obtain ⟨B2, o2, cur2, e2, fz2, v2, a1, a2, a3, a4, a5⟩ := this
          obtain rfl := R.boxInj B2 B' r0 o2 o'' a1 k1
          obtain rfl : o2 = o'' := by rw [a1] at k1; simpa using k1
          obtain ⟨rfl, rfl, rfl⟩ : cur2 = cur ∧ e2 = e ∧ fz2 = fz := by rw [a2] at k2; simpa using k2
          rw [← Nat.add_assoc, hcur] at a4
          simp only [Option.some.injEq] at a4
          subst a4
          exact a5.look rfl _ _)
      refine opVal R hd (run B' (o'' + c) vs hval hvl (fun h => by rw [← hlen]; exact hm.2 h) (fun j v h => ?_)) hm.1
      rw [cell?_of k2]
      exact (hvs j v h).2
  · -- memory that nobody writes
    rename_i cells
    obtain ⟨hg, h2⟩ := Q.run_guard_some h2
    simp only [decide_eq_true_eq] at hg
    obtain ⟨x', h4, h2⟩ := Q.run_bind_some h2
    obtain rfl := Q.run_pure_some h2
    have hv' := hv.one_inv
    generalize hax : a.eval x = u at hv'
    cases hv' with
    | @pp _ B o' cur e fz hL hB hp =>
      have hj : ∀ j, j < n → ∃ y u, cells[j]? = some y ∧ cur[o' + j]? = some u ∧ RepP w L y u := by
        intro j hj
        obtain ⟨u, g1, g2⟩ := hp j (cells[j]'(by omega)) (by simp)
        exact ⟨_, u, by simp, g1, g2⟩
      let vs := (List.range n).map fun j => cur.getD (o' + j) undef
      have hvl : vs.length = n := by simp [vs]
      have hvs : ∀ j v, vs[j]? = some v → j < n ∧ cur[o' + j]? = some v := by
        intro j v hjv
        simp only [vs, List.getElem?_map] at hjv
        have hjn : j < n := by
          rcases Nat.lt_or_ge j n with h | h
          · exact h
          · simp [List.getElem?_eq_none, h] at hjv
        obtain ⟨y, u, _, g1, _⟩ := hj j hjn
        simp [hjn, Array.getD_eq_getD_getElem?, g1] at hjv
        exact ⟨hjn, by rw [g1, hjv]⟩
      have hm := mkV_rep (nm := nm) (w := w) (L := L) (γ := S.γ) (k := .h 0) (vs := vs) h4 (by simp [hvl]; omega) (by
        intro j c1 v1 hc1 hv1
        obtain ⟨hjn, hcur⟩ := hvs j v1 hv1
        obtain ⟨y, u, g0, g1, g2⟩ := hj j hjn
        rw [hcur] at g1
        simp only [Option.some.injEq] at g1
        subst g1
        simp only [List.getElem?_map, List.getElem?_take_of_lt hjn, g0, Option.map_some, Option.some.injEq] at hc1
        subst hc1
        exact .d (.plain g2))
      refine opVal R hd (run B o' vs hax hvl (fun h => ?_) (fun j v h => ?_)) hm.1
      · have := hm.2 h; simp at this; omega
      · rw [cell?_of hB]; exact (hvs j v h).2
  · -- a row of a slice of one's own
    rename_i pl g sz i c
    obtain ⟨res, h3, h2⟩ := Q.run_bind_some h2
    obtain ⟨row, hrow, h2⟩ := Q.run_ofO_some h2
    obtain ⟨hg, h2⟩ := Q.run_guard_some h2
    simp only [decide_eq_true_eq] at hg
    obtain ⟨x', h4, h2⟩ := Q.run_bind_some h2
    obtain rfl := Q.run_pure_some h2
    cases hv.one_inv with
    | eptr hv0 hh hgl hp =>
      obtain ⟨hgg, u, hu⟩ := ownAt0 R hh h3
      obtain ⟨B, o', hB, hval⟩ := hp hgg
      rcases hu.own_inv with ⟨hnil, _⟩ | ⟨B', o'', cap, cur, e, fz, val, _, hsz, hL', hB', hfz, hlens, hcap, hroom, hvalc, hrr, hu8⟩
      · rw [hnil] at hrow; simp at hrow
      obtain rfl := R.rowInj B' B pl o'' o' hL' hB
      obtain rfl : o'' = o' := by rw [hL'] at hB; simpa using hB
      have hrl : row.length = sz := hlens row (List.mem_of_getElem? hrow)
      have hj : ∀ j, j < n → ∃ y, row[c + j]? = some y ∧ cellOf res.2.2 i (c + j) = some y := by
        intro j hj
        refine ⟨row[c + j]'(by omega), by simp, cellOf_some.2 ⟨row, hrow, by simp⟩⟩
      let vs := (List.range n).map fun j => val i (c + j)
      have hvl : vs.length = n := by simp [vs]
      have hvs : ∀ j v, vs[j]? = some v → j < n ∧ v = val i (c + j) := by
        intro j v hjv
        simp only [vs, List.getElem?_map] at hjv
        have hjn : j < n := by
          rcases Nat.lt_or_ge j n with h | h
          · exact h
          · simp [List.getElem?_eq_none, h] at hjv
        simp [hjn] at hjv
        exact ⟨hjn, hjv.symm⟩
      have hll : (lookRow pl g i c ((row.drop c).take n)).length = n := by rw [lookRow_length]; simp; omega
      have hm := mkV_rep (nm := nm) (w := w) (L := L) (γ := S.γ) (k := .h 0) (vs := vs) h4 (by rw [hll, hvl]) (by
        intro j c1 v1 hc1 hv1
        obtain ⟨hjn, rfl⟩ := hvs j v1 hv1
        obtain ⟨y, g0, g1⟩ := hj j hjn
        rw [lookRow_get, List.getElem?_take_of_lt hjn, List.getElem?_drop, g0] at hc1
        simp only [Option.map_some, Option.some.injEq] at hc1
        have := own_rep (nm := nm) (γ := S.γ) (k := .h 0) (j := j) (pl := pl.sub i (c + j)) hh (hrr i (c + j) y g1)
        have hk2 : S.γ (pl.sub i (c + j)).k = g := hgg.symm
        rw [hk2] at this
        rw [← hc1]
        exact this)
      refine opVal R hd (run B' (o'' + i * sz + c) vs hval hvl (fun h => ?_) (fun j v h => ?_)) hm.1
      · have := hm.2 h; rw [hll] at this; exact this
      · obtain ⟨hjn, rfl⟩ := hvs j v h
        obtain ⟨y, g0, g1⟩ := hj j hjn
        rw [cell?_of hB']
        have := hvalc i (c + j) y g1
        rwa [← Nat.add_assoc] at this
  · -- a function
    rename_i t0 f0 l0
    obtain ⟨l', hl, h2⟩ := Q.run_ofO_some h2
    obtain ⟨rfl, rfl, rfl⟩ := C.fn.inj (fnsOf_inv hl)
    obtain ⟨hg, h2⟩ := Q.run_guard_some h2
    have hln : l0.length = n := by simpa using hg
    obtain ⟨x', h4, h2⟩ := Q.run_bind_some h2
    obtain rfl := Q.run_pure_some h2
    obtain ⟨B, o', cap, cur, e', fz, val, hf, hL, hB, hcl, hvv, hrr⟩ := hv.one_inv.fns_inv (by omega)
    rcases hf with ⟨h, _⟩ | ⟨_, hval⟩
    · exact absurd h (by decide)
    · let vs := (List.range n).map val
      have hvl : vs.length = n := by simp [vs]
      have hvs : ∀ j v, vs[j]? = some v → j < n ∧ v = val j := by
        intro j v hjv
        simp only [vs, List.getElem?_map] at hjv
        rcases Nat.lt_or_ge j n with hj | hj
        · rw [List.getElem?_range hj] at hjv
          simp only [Option.map_some, Option.some.injEq] at hjv
          exact ⟨hj, hjv.symm⟩
        · simp [List.getElem?_eq_none, hj] at hjv
      have hm := mkV_rep (nm := nm) (w := w) (L := L) (γ := S.γ) (k := .h 0) (vs := vs) h4 (by rw [hvl, hln]) (by
        intro j c1 v1 hc1 hv1
        obtain ⟨hjn, rfl⟩ := hvs j v1 hv1
        exact (hrr j c1 hc1).any (cleanL_get hcl hc1) _ _)
      refine opVal R hd (run B o' vs hval hvl (fun h => ?_) (fun j v h => ?_)) hm.1
      · have := hm.2 h; omega
      · obtain ⟨hjn, rfl⟩ := hvs j v h
        rw [cell?_of hB]
        exact hvv j (by omega)
  · cases h2
end
end
section
section
variable {nm : FuncId → Option Nat} {N : Nat} {S : St} {a : Act} {w : World} {L : LabF} {P : Program} {o : Oper} {Cl : Oracle} {d : Nat} {r : V × List Wr}
theorem ev_fieldA (R : Rel nm N S a w L) (hd : ∀ d, o.dst = some d → d < N) {x : Operand} {X : Abs.X} {s : TypeId} {i : Nat} {fs : Array Field} {f : Field} {n : Nat} (hx : OpRel nm X x) (ho : o.op = .fieldAddr s x i)
    (hs : P.underlying s = some (.struct fs)) (hf : fs[i]? = some f) (hn : szOf P f.type = some n) (hn0 : n ≠ 0) (hr : (evOp Cl d (.fieldA f.offset X)).run S = some r) :
    OpsTo P a w o (Aft nm N S w L a o.dst r.1 r.2) := by
  simp only [evOp] at hr
  obtain ⟨v, h1, h2⟩ := Q.run_bind_some hr
  clear hr
  have hv := rd_val R hx h1
  have run : ∀ ad : Addr, a.eval x = .pointer (some ad) → (execOp a.eval o).run P w = .ok (.value (.pointer (some (ad.add f.offset)))) w := by
    intro ad hb
    have : (Instr.fieldAt s (a.eval x) i).run P w = .ok (.pointer (some (ad.add f.offset))) w := by
      rw [hb]
      simp [Instr.fieldAt, run_underlying hs, hf, Instr.sureAddr, fieldPlace, run_sizeOf' hn, hn0]
    simp [execOp, ho, this]
  split at h2
  · rename_i r0 g c
    obtain rfl := Q.run_pure_some h2
    cases hv.one_inv with
    | ptr hv0 hg h =>
      obtain ⟨ad, had⟩ := hv0
      refine opVal R hd (run ad had) (.one (.ptr ⟨_, rfl⟩ hg (fun he => ?_)))
      obtain ⟨B, o', hB, hb⟩ := h he
      rw [had] at hb
      simp only [Value.pointer.injEq, Option.some.injEq] at hb
      subst hb
      exact ⟨B, o', hB, by rw [add_off, Nat.add_assoc]⟩
  · rename_i cells
    obtain rfl := Q.run_pure_some h2
    have hv' := hv.one_inv
    generalize hax : a.eval x = u at hv'
    cases hv' with
    | @pp _ B o' cur e fz hL hB hp =>
      refine opVal R hd (run _ hax) ?_
      rw [add_off]
      refine .one (.pp hL hB ?_)
      intro q y hq
      rw [List.getElem?_drop] at hq
      have := hp (f.offset + q) y hq
      rwa [← Nat.add_assoc] at this
  · rename_i pl g sz j c
    obtain rfl := Q.run_pure_some h2
    cases hv.one_inv with
    | eptr hv0 hh hg h =>
      obtain ⟨ad, had⟩ := hv0
      refine opVal R hd (run ad had) (.one (.eptr ⟨_, rfl⟩ hh hg (fun he => ?_)))
      obtain ⟨B, o', hB, hb⟩ := h he
      rw [had] at hb
      simp only [Value.pointer.injEq, Option.some.injEq] at hb
      subst hb
      exact ⟨B, o', hB, by rw [add_off, Nat.add_assoc]⟩
  · cases h2
theorem RepV.agg_inv {γ : Key → Nat} {k : Key} {cs : List C} {v : Value} (h : RepV nm w L γ k (.agg cs) v) : ∃ vs : Array Value, v = .agg vs ∧ cs.length = vs.size ∧ ∀ (j : Nat) c u, cs[j]? = some c → vs[j]? = some u → RepC nm w L γ k j c u := by
  cases h with | agg hl h => exact ⟨_, rfl, hl, h⟩
theorem RepC.at_ {γ : Key → Nat} {k k' : Key} {j j' : Nat} {c : C} {v : Value} (h : RepC nm w L γ k j c v) (hc : c.own = false) : RepC nm w L γ k' j' c v := h.any (h.clean_of hc) k' j'
theorem ev_field (R : Rel nm N S a w L) (hd : ∀ d, o.dst = some d → d < N) {x : Operand} {X : Abs.X} {s : TypeId} {i : Nat} {fs : Array Field} {f : Field} {n : Nat} {agg : Bool} (hx : OpRel nm X x) (hok : X.okC = true) (ho : o.op = .field s x i)
    (hs : P.underlying s = some (.struct fs)) (hf : fs[i]? = some f) (hn : aggOf P f.type = some (n, agg)) (hr : (evOp Cl d (.field f.offset n agg X)).run S = some r) :
    OpsTo P a w o (Aft nm N S w L a o.dst r.1 r.2) := by
  simp only [evOp] at hr
  obtain ⟨v, h1, h2⟩ := Q.run_bind_some hr
  clear hr
  have hv := rd_val R hx h1
  have hcl := rd_own hok h1
  split at h2
  · rename_i cs
    obtain ⟨hg, h2'⟩ := Q.run_guard_some h2
    clear h2; have h2 := h2'; clear h2'
    simp only [decide_eq_true_eq] at hg
    obtain ⟨x', h4, h2⟩ := Q.run_bind_some h2
    obtain rfl := Q.run_pure_some h2
    obtain ⟨vs, hvs, hl, hc⟩ := hv.agg_inv
    let us := (vs.toList.drop f.offset).take n
    have hul : us.length = n := by simp [us]; omega
    have hm := mkV_rep (nm := nm) (w := w) (L := L) (γ := S.γ) (k := .h 0) (vs := us) h4 (by rw [hul]; simp; omega) (by
      intro j c1 v1 hc1 hv1
      have hj : j < n := by rw [← hul]; exact (List.getElem?_eq_some_iff.1 hv1).1
      simp only [us] at hv1
      rw [List.getElem?_take_of_lt hj, List.getElem?_drop] at hc1 hv1
      exact (hc (f.offset + j) c1 v1 hc1 (by simpa using hv1)).at_ (own_get hcl hc1))
    refine opVal R hd (v := wholeV agg us) ?_ hm.1
    have : (Instr.field s (a.eval x) i).run P w = .ok (wholeV agg us) w := by
      rw [hvs]
      simp only [Instr.field, Sem.run_bind, run_underlying hs, Result.andThen_ok, hf, asAgg, Sem.run_pure, part, run_isAgg hn]
      cases agg with
      | true =>
        simp only [if_true, Sem.run_bind, run_sizeOf hn, Result.andThen_ok, Sem.run_pure, wholeV]
        congr 2
        apply Array.ext'
        simp [us, List.drop_take]
      | false =>
        have hn1 : n = 1 := by have := hm.2 rfl; simp at this; omega
        subst hn1
        have hlt : f.offset < vs.size := by omega
        have : vs[f.offset]? = some vs[f.offset] := by simp [hlt]
        simp only [Bool.false_eq_true, if_false, this, Sem.run_pure, wholeV]
        congr 1
        have hd1 : vs.toList.drop f.offset = vs[f.offset] :: vs.toList.drop (f.offset + 1) := by
          rw [List.drop_eq_getElem_cons (by simpa using hlt)]; simp
        simp [us, hd1]
    simp [execOp, ho, this]
  · cases h2
theorem ev_extract (R : Rel nm N S a w L) (hd : ∀ d, o.dst = some d → d < N) {x : Operand} {X : Abs.X} {j : Nat} (hx : OpRel nm X x) (ho : o.op = .extract x j) (hr : (evOp Cl d (.extract j X)).run S = some r) :
    OpsTo P a w o (Aft nm N S w L a o.dst r.1 r.2) := by
  simp only [evOp] at hr
  obtain ⟨v, h1, h2⟩ := Q.run_bind_some hr
  clear hr
  have hv := rd_val R hx h1
  split at h2
  · rename_i vs
    obtain ⟨y, hy, h2⟩ := Q.run_ofO_some h2
    obtain rfl := Q.run_pure_some h2
    generalize hax : a.eval x = u at hv
    cases hv with
    | @tup _ us hl hcl h =>
      have hj : j < us.size := by rw [← hl]; exact (List.getElem?_eq_some_iff.1 hy).1
      refine opVal R hd (v := us[j]) ?_ (h j y us[j] hy (by simp [hj]))
      have : us[j]? = some us[j] := by simp [hj]
      simp [execOp, ho, hax, Instr.extract, this]
  · cases h2
theorem ev_index (R : Rel nm N S a w L) (hd : ∀ d, o.dst = some d → d < N) {x i : Operand} {X I : Abs.X} {t : TypeId} (hx : OpRel nm X x) (hi : OpRel nm I i) (ho : o.op = .index t x i) (ht : P.underlying t = some .string)
    (hr : (evOp Cl d (.index X I)).run S = some r) : OpsTo P a w o (Aft nm N S w L a o.dst r.1 r.2) := by
  simp only [evOp] at hr
  obtain ⟨v, h1, hr'⟩ := Q.run_bind_some hr
  clear hr; have hr := hr'; clear hr'
  have hv := rd_val R hx h1
  obtain ⟨vi, h3, hr'⟩ := Q.run_bind_some hr
  clear hr; have hr := hr'; clear hr'
  obtain ⟨n, hn, h2⟩ := Q.run_ofO_some hr
  clear hr
  obtain ⟨kk, hvi⟩ := asNat_inv (rd_val R hi h3) hn
  split at h2
  · rename_i s
    obtain ⟨b, hb, h2⟩ := Q.run_ofO_some h2
    obtain rfl := Q.run_pure_some h2
    refine opVal R hd (v := .int .u8 b.toNat) ?_ (.one (.d (.plain .int)))
    have hs := hv.one_inv.str_inv
    have hlt := (List.getElem?_eq_some_iff.1 hb).1
    have hb' : (⟨s.toArray⟩ : ByteArray)[n]? = some b := by
      have h2 : n < (⟨s.toArray⟩ : ByteArray).size := by rw [bytes_size]; exact hlt
      obtain ⟨_, he⟩ := List.getElem?_eq_some_iff.1 hb
      rw [show (⟨s.toArray⟩ : ByteArray)[n]? = some ((⟨s.toArray⟩ : ByteArray)[n]'h2) from by simp [h2]]
      rw [← he]
      rfl
    have : (Instr.index t (a.eval x) (a.eval i)).run P w = .ok (.int .u8 b.toNat) w := by
      rw [hs, hvi]
      simp [Instr.index, asIntOf, run_underlying ht, hb']
    simp [execOp, ho, this]
  · cases h2
theorem ev_mkif (R : Rel nm N S a w L) (hd : ∀ d, o.dst = some d → d < N) {x : Operand} {X : Abs.X} {t : TypeId} {dd : TypeDesc} (ho : o.op = .makeInterface t x) (ht : P.underlying t = some dd) (hdd : ∀ m, dd ≠ .interface m)
    (hr : (evOp Cl d (.mkif X)).run S = some r) : OpsTo P a w o (Aft nm N S w L a o.dst r.1 r.2) := by
  simp only [evOp] at hr
  obtain rfl := Q.run_pure_some hr
  refine opVal R hd (v := .iface t (a.eval x)) ?_ (.one .ifc)
  have : (Instr.makeInterface t (a.eval x)).run P w = .ok (.iface t (a.eval x)) w := by
    unfold Instr.makeInterface
    rw [Sem.run_bind, run_underlying ht, Result.andThen_ok]
    cases dd <;> first | rfl | exact absurd rfl (hdd _)
  simp [execOp, ho, this]
theorem ev_min (R : Rel nm N S a w L) (hd : ∀ d, o.dst = some d → d < N) {x y : Operand} {X Y : Abs.X} {ts : Array TypeId} (hx : OpRel nm X x) (hy : OpRel nm Y y) (ho : o.op = .call ⟨.builtin .min, #[x, y], ts⟩)
    (hr : (evOp Cl d (.min X Y)).run S = some r) : OpsTo P a w o (Aft nm N S w L a o.dst r.1 r.2) := by
  simp only [evOp] at hr
  obtain ⟨v, h1, hr'⟩ := Q.run_bind_some hr
  clear hr; have hr := hr'; clear hr'
  obtain ⟨v2, h3, h2⟩ := Q.run_bind_some hr
  clear hr
  split at h2
  · rename_i k m k' n
    obtain rfl := Q.run_pure_some h2
    refine opVal R hd (v := .int k (if n < m then n else m)) ?_ (.one (.d (.plain .int)))
    rw [execOp_builtin ho, show (#[x, y] : Array Operand).map a.eval = #[a.eval x, a.eval y] from by simp]
    refine run_v ?_
    show (Builtin.min_ ts _ #[a.eval x, a.eval y]).run P w = _
    rw [(rd_val R hx h1).one_inv.int_inv, (rd_val R hy h3).one_inv.int_inv]
    simp [Builtin.min_, Builtin.min2]
  · cases h2
theorem ev_max (R : Rel nm N S a w L) (hd : ∀ d, o.dst = some d → d < N) {x y : Operand} {X Y : Abs.X} {ts : Array TypeId} (hx : OpRel nm X x) (hy : OpRel nm Y y) (ho : o.op = .call ⟨.builtin .max, #[x, y], ts⟩)
    (hr : (evOp Cl d (.max X Y)).run S = some r) : OpsTo P a w o (Aft nm N S w L a o.dst r.1 r.2) := by
  simp only [evOp] at hr
  obtain ⟨v, h1, hr'⟩ := Q.run_bind_some hr
  clear hr; have hr := hr'; clear hr'
  obtain ⟨v2, h3, h2⟩ := Q.run_bind_some hr
  clear hr
  split at h2
  · rename_i k m k' n
    obtain rfl := Q.run_pure_some h2
    refine opVal R hd (v := .int k (if n > m then n else m)) ?_ (.one (.d (.plain .int)))
    rw [execOp_builtin ho, show (#[x, y] : Array Operand).map a.eval = #[a.eval x, a.eval y] from by simp]
    refine run_v ?_
    show (Builtin.max_ ts _ #[a.eval x, a.eval y]).run P w = _
    rw [(rd_val R hx h1).one_inv.int_inv, (rd_val R hy h3).one_inv.int_inv]
    simp [Builtin.max_, Builtin.max2]
  · cases h2
theorem ev_indexR (R : Rel nm N S a w L) (hd : ∀ d, o.dst = some d → d < N) {x i : Operand} {X I : Abs.X} {t e : TypeId} {k sz : Nat} (hx : OpRel nm X x) (hi : OpRel nm I i) (ho : o.op = .indexAddr t x i)
    (ht : P.underlying t = some (.array k e)) (hs : szOf P e = some sz) (hr : (evOp Cl d (.indexR k sz X I)).run S = some r) : OpsTo P a w o (Aft nm N S w L a o.dst r.1 r.2) := by
  simp only [evOp] at hr
  obtain ⟨v, h1, hr'⟩ := Q.run_bind_some hr
  clear hr; have hr := hr'; clear hr'
  have hv := rd_val R hx h1
  obtain ⟨vi, h3, hr'⟩ := Q.run_bind_some hr
  clear hr; have hr := hr'; clear hr'
  obtain ⟨n, hn, h2⟩ := Q.run_ofO_some hr
  clear hr
  obtain ⟨kk, hvi⟩ := asNat_inv (rd_val R hi h3) hn
  obtain ⟨hlt, h2'⟩ := Q.run_guard_some h2
  clear h2; have h2 := h2'; clear h2'
  simp only [decide_eq_true_eq] at hlt
  split at h2
  · rename_i r0 g c
    obtain rfl := Q.run_pure_some h2
    cases hv.one_inv with
    | ptr hv0 hg h =>
      obtain ⟨ad, had⟩ := hv0
      have : (Instr.indexAt t (a.eval x) (a.eval i)).run P w = .ok (.pointer (some (ad.add (n * sz)))) w := by
        rw [had, hvi]
        have hlt' : ¬ k ≤ n := by omega
        simp [Instr.indexAt, asIntOf, run_underlying ht, Instr.sureAddr, run_sizeOf' hs, hlt]
      refine opVal R hd (by simp [execOp, ho, this]; rfl) (.one (.ptr ⟨_, rfl⟩ hg (fun he => ?_)))
      obtain ⟨B, o', hB, hb⟩ := h he
      rw [had] at hb
      simp only [Value.pointer.injEq, Option.some.injEq] at hb
      subst hb
      exact ⟨B, o', hB, by rw [add_off, Nat.add_assoc]⟩
  · cases h2
theorem ev_indexA (R : Rel nm N S a w L) (hd : ∀ d, o.dst = some d → d < N) {x i : Operand} {X I : Abs.X} {t e : TypeId} {sz : Nat} (hx : OpRel nm X x) (hi : OpRel nm I i) (ho : o.op = .indexAddr t x i)
    (ht : P.underlying t = some (.slice e)) (hs : szOf P e = some sz) (hr : (evOp Cl d (.indexA sz X I)).run S = some r) : OpsTo P a w o (Aft nm N S w L a o.dst r.1 r.2) := by
  simp only [evOp] at hr
  obtain ⟨v, h1, hr'⟩ := Q.run_bind_some hr
  clear hr; have hr := hr'; clear hr'
  have hv := rd_val R hx h1
  obtain ⟨vi, h3, hr'⟩ := Q.run_bind_some hr
  clear hr; have hr := hr'; clear hr'
  obtain ⟨n, hn, h2⟩ := Q.run_ofO_some hr
  clear hr
  obtain ⟨kk, hvi⟩ := asNat_inv (rd_val R hi h3) hn
  have run : ∀ (ad : Addr) (len cap : Nat), a.eval x = .slice (some ad) len cap → n < len → (execOp a.eval o).run P w = .ok (.value (.pointer (some (ad.add (n * sz))))) w := by
    intro ad len cap hb hlt
    have : (Instr.indexAt t (a.eval x) (a.eval i)).run P w = .ok (.pointer (some (ad.add (n * sz)))) w := by
      rw [hb, hvi]
      simp [Instr.indexAt, asIntOf, run_underlying ht, run_sizeOf' hs, hlt]
    simp [execOp, ho, this]
  split at h2
  · cases h2
  · rename_i t' sz' rows hno
    obtain ⟨hg, h2'⟩ := Q.run_guard_some h2
    clear h2; have h2 := h2'; clear h2'
    simp only [beq_iff_eq] at hg
    subst hg
    obtain ⟨row, hrow, h2⟩ := Q.run_ofO_some h2
    obtain rfl := Q.run_pure_some h2
    have hv' := hv.one_inv
    generalize hax : a.eval x = u at hv'
    cases hv' with
    | d h =>
      cases h with
      | plain h =>
        cases h with
        | nil => simp at hrow
        | plE => simp at hrow
        | @pl sz' rows B o' cap cur e' fz val hne hsz hcapp hL hB hlen hvv hrr =>
          have hlt := (List.getElem?_eq_some_iff.1 hrow).1
          refine opVal R hd (run ⟨B, o', none⟩ rows.length cap hax hlt) ?_
          rw [add_off]
          refine .one (.pp hL hB ?_)
          intro q y hq
          have hc : cellOf rows n q = some y := cellOf_some.2 ⟨row, hrow, hq⟩
          exact ⟨val n q, hvv n q y hc, hrr n q y hc⟩
      | ownE => simp at hrow
      | own => simp at hno
  · rename_i pl g sz' off len
    obtain ⟨hg, h2'⟩ := Q.run_guard_some h2
    clear h2; have h2 := h2'; clear h2'
    simp only [Bool.and_eq_true, beq_iff_eq, decide_eq_true_eq] at hg
    obtain ⟨rfl, hlt⟩ := hg
    obtain rfl := Q.run_pure_some h2
    cases hv.one_inv with
    | view hv0 hh hgl h =>
      obtain ⟨b, c, hb, hlc, hbs⟩ := hv0
      have hbs' : b.isSome = true := hbs
      obtain ⟨ad, rfl⟩ := Option.isSome_iff_exists.1 hbs'
      refine opVal R hd (run ad len c hb hlt) (.one (.eptr ⟨_, rfl⟩ hh hgl (fun he => ?_)))
      rcases h he with ⟨h0, _⟩ | ⟨B, o', cap, cur, e', fz, hval, hsz, hL, hB, _⟩
      · omega
      · rw [hb] at hval
        simp only [Value.slice.injEq, Option.some.injEq, true_and] at hval
        obtain ⟨rfl, _⟩ := hval
        exact ⟨B, o', hL, by rw [add_off, Nat.add_mul, Nat.add_zero, Nat.add_assoc]⟩
  · rename_i t0 f0 l0
    obtain ⟨l', hl, h2'⟩ := Q.run_ofO_some h2
    clear h2
    obtain ⟨rfl, rfl, rfl⟩ := C.fn.inj (fnsOf_inv hl)
    obtain ⟨hg, h2⟩ := Q.run_guard_some h2'
    clear h2'
    obtain ⟨c, hc, h2⟩ := Q.run_ofO_some h2
    obtain rfl := Q.run_pure_some h2
    have hsz : sz = 1 := by simpa using hg
    subst hsz
    obtain ⟨B, o', cap, cur, e', fz, val, hf, hL, hB, hcl, hvv, hrr⟩ := hv.one_inv.fns_inv (Nat.le_refl _)
    have hlt := (List.getElem?_eq_some_iff.1 hc).1
    rcases hf with ⟨_, h, _⟩ | ⟨h, _⟩
    · refine opVal R hd (run _ _ _ h hlt) ?_
      rw [add_off]
      refine .one (.fns (B := B) (o := o' + n * 1) (cap := 0) (fun i => val (n + i)) (.inr ⟨rfl, rfl⟩) hL hB (by simp [cleanL, cleanL_get hcl hc]) ?_ ?_)
      · intro i hi
        have hi0 : i = 0 := by simpa using hi
        subst hi0
        have := hvv n hlt
        simpa using this
      · intro i x hx
        cases i with
        | zero =>
          simp only [List.getElem?_cons_zero, Option.some.injEq] at hx
          subst hx
          exact hrr n c hc
        | succ i => simp at hx
    · exact absurd h (by decide)
  · cases h2
end
end
end Go.Abs
