/- The law's frame: arguments as data. -/
import Derived.Test.YtjndnconlakjkaaAbsFrame
set_option linter.unusedVariables false
set_option linter.unusedSimpArgs false
namespace Go.Abs

mutual
/-- A reading as data, cell by cell. -/
def dataOf {H : Type} (P : Program) : Nat → TypeId → DataW H → Option (List D)
  | 0, _, _ => none
  | n + 1, t, d => match P.underlying t, d with
    | some .bool, .lit (.bool b) => some [.bool b]
    | some (.int _), .lit (.int k z) => some [.int k z]
    | some .string, .lit (.string l) => some [.str l]
    | some (.slice e), .nil => some [.sl (.im true) (P.cellsOf e) []]
    | some (.slice e), .slice elems _ => (elems.mapM (dataOf P n e)).map fun rows => [.sl (.im false) (P.cellsOf e) rows]
    | some (.struct fs), .agg ds => dataFs P n fs.toList ds
    | _, _ => none
def dataFs {H : Type} (P : Program) : Nat → List Field → List (DataW H) → Option (List D)
  | _, [], [] => some []
  | n, f :: fs, d :: ds => (dataOf P n f.type d).bind fun x => (dataFs P n fs ds).map (x ++ ·)
  | _, _, _ => none
end

section
variable {H : Type} {enc : TypeId × Value → H} {P : Program} {W : World} {L : LabF}

theorem cells_get {b n : Nat} {a : Addr} {cs : List Value} (h : W.cells? b a n = some cs) : cs.length = n ∧ ∀ j, j < n → W.cell? (a.add j) = cs[j]? := by
  unfold World.cells? at h
  split at h
  · have hl : ∀ (l : List Nat) (ys : List Value), l.mapM (fun i => W.cell? (a.add i)) = some ys → ys.length = l.length ∧ ∀ (j : Nat) i, l[j]? = some i → W.cell? (a.add i) = ys[j]? := by
      intro l
      induction l with
      | nil => intro ys hy; have : ys = [] := by simpa using hy.symm
               subst this; exact ⟨rfl, fun j i hj => by simp at hj⟩
      | cons x l ih =>
        intro ys hy
        rw [List.mapM_cons] at hy
        obtain ⟨y, h1, h2⟩ := bind_some hy
        obtain ⟨t, h3, h4⟩ := bind_some h2
        cases h4
        obtain ⟨g1, g2⟩ := ih t h3
        refine ⟨by simp [g1], fun j i hj => ?_⟩
        cases j with
        | zero => simp at hj; subst hj; simpa using h1
        | succ j => simpa using g2 j i (by simpa using hj)
    obtain ⟨h1, h2⟩ := hl _ _ h
    refine ⟨by simpa using h1, fun j hj => h2 j j (by simp [hj])⟩
  · cases h

theorem cell_inv {a : Addr} {u : Value} (h : W.cell? a = some u) : a.spot = none ∧ ∃ cur e fz, W.heap[a.block]? = some (.cells cur e fz) ∧ cur[a.off]? = some u := by
  unfold World.cell? at h
  split at h
  · rename_i c e fz hc
    split at h
    · cases h
    · rename_i hs
      refine ⟨by simpa using hs, c, e, fz, hc, h⟩
  · cases h

/-- What is asked of the data that an argument's cells read as. -/
def DataOk (W : World) (L : LabF) (l : List D) (cs : List Value) : Prop := l.length = cs.length ∧ ∀ (j : Nat) y u, l[j]? = some y → cs[j]? = some u → RepP W L y u

theorem DataOk.app {l l' : List D} {cs cs' : List Value} (h : DataOk W L l cs) (h' : DataOk W L l' cs') : DataOk W L (l ++ l') (cs ++ cs') := by
  refine ⟨by simp [h.1, h'.1], fun j y u hy hu => ?_⟩
  by_cases hj : j < l.length
  · rw [List.getElem?_append_left hj] at hy
    rw [List.getElem?_append_left (by rw [← h.1]; exact hj)] at hu
    exact h.2 j y u hy hu
  · rw [List.getElem?_append_right (by omega)] at hy
    rw [List.getElem?_append_right (by rw [← h.1]; omega), ← h.1] at hu
    exact h'.2 _ y u hy hu

theorem fields_data {n fuel : Nat} (ih : ∀ (t : TypeId) (cs : List Value) (x : DataW H × List MemPlace), simpleT P n t = true → DataW.trod enc P W 0 (fun _ => true) true fuel t cs = some x → ∃ l, dataOf P n t x.1 = some l ∧ DataOk W L l cs ∧ cs.length = P.cellsOf t) (cs : List Value) :
    ∀ (fl : List Field) (o e : Nat) {xs : List (DataW H × List MemPlace)}, laidFrom P o fl = some e → (∀ f ∈ fl, simpleT P n f.type = true) → cs.length = e → (fl.mapM fun f => DataW.trod enc P W 0 (fun _ => true) true fuel f.type ((cs.drop f.offset).take (P.cellsOf f.type))) = some xs →
      ∃ l, dataFs P n fl (xs.map (·.1)) = some l ∧ DataOk W L l (cs.drop o)
  | [], o, e, xs, h, _, hl, hx => by
    simp only [laidFrom, Option.some.injEq] at h
    have : xs = [] := by simpa using hx.symm
    subst this
    refine ⟨[], by simp [dataFs], ?_, fun j y u hy => by simp at hy⟩
    simp; omega
  | f :: fl, o, e, xs, h, hs, hl, hx => by
    simp only [laidFrom] at h
    split at h
    · rename_i ho
      rw [List.mapM_cons] at hx
      obtain ⟨y, h1, h2⟩ := bind_some hx
      obtain ⟨t, h3, h4⟩ := bind_some h2
      cases h4
      obtain ⟨l1, k1, k2, k3⟩ := ih _ _ _ (hs f (List.mem_cons_self ..)) h1
      obtain ⟨l2, k4, k5⟩ := fields_data ih cs fl _ e h (fun g hg => hs g (List.mem_cons_of_mem _ hg)) hl h3
      refine ⟨l1 ++ l2, by simp [dataFs, k1, k4], ?_⟩
      have := k2.app k5
      rw [ho, ← List.drop_drop, List.take_append_drop] at this
      exact this
    · cases h

theorem trod_data (hL : ∀ B cur e fz, W.heap[B]? = some (.cells cur e fz) → L B = some .imm) : ∀ (n : Nat) (fuel : Nat) (t : TypeId) (cs : List Value) (x : DataW H × List MemPlace), simpleT P n t = true →
    DataW.trod enc P W 0 (fun _ => true) true fuel t cs = some x → ∃ l, dataOf P n t x.1 = some l ∧ DataOk W L l cs ∧ cs.length = P.cellsOf t := by
  intro n
  induction n with
  | zero => intro fuel t cs x hs; simp [simpleT] at hs
  | succ n ih =>
    intro fuel t cs x hs h
    simp only [simpleT] at hs
    have one : ∀ {y : D} {u : Value}, RepP W L y u → DataOk W L [y] [u] := by
      intro y u hr
      refine ⟨rfl, fun j y' u' h1 h2 => ?_⟩
      cases j with
      | zero => simp at h1 h2; subst h1; subst h2; exact hr
      | succ j => simp at h1
    cases fuel with
    | zero => simp [DataW.trod] at h
    | succ fuel =>
    split at hs
    · rename_i hu
      simp only [beq_iff_eq] at hs
      rw [DataW.trod_step] at h
      unfold DataW.trodStep at h
      rw [hu] at h
      have : ∃ b, cs = [.bool b] ∧ x = (.lit (.bool b), []) := by
        rcases cs with _ | ⟨c, _ | ⟨c2, t⟩⟩
        · simp at h
        · cases c <;> simp at h
          exact ⟨_, rfl, h.symm⟩
        · simp at h
      obtain ⟨b, rfl, rfl⟩ := this
      exact ⟨[.bool b], by simp [dataOf, hu], one .bool, by simp [hs]⟩
    · rename_i k hu
      simp only [beq_iff_eq] at hs
      rw [DataW.trod_step] at h
      unfold DataW.trodStep at h
      rw [hu] at h
      have : ∃ z, cs = [.int k z] ∧ x = (.lit (.int k z), []) := by
        rcases cs with _ | ⟨c, _ | ⟨c2, t⟩⟩
        · simp at h
        · cases c <;> simp at h
          obtain ⟨⟨rfl, _⟩, h⟩ := h
          exact ⟨_, rfl, h.symm⟩
        · simp at h
      obtain ⟨z, rfl, rfl⟩ := this
      exact ⟨[.int k z], by simp [dataOf, hu], one .int, by simp [hs]⟩
    · rename_i hu
      simp only [beq_iff_eq] at hs
      rw [DataW.trod_step] at h
      unfold DataW.trodStep at h
      rw [hu] at h
      have : ∃ z : ByteArray, cs = [.string z] ∧ x = (.lit (.string z.data.toList), []) := by
        rcases cs with _ | ⟨c, _ | ⟨c2, t⟩⟩
        · simp at h
        · cases c <;> simp at h
          exact ⟨_, rfl, h.2.symm⟩
        · simp at h
      obtain ⟨z, rfl, rfl⟩ := this
      refine ⟨[.str z.data.toList], by simp [dataOf, hu], one ?_, by simp [hs]⟩
      exact .str
    · rename_i e hu
      simp only [Bool.and_eq_true, decide_eq_true_eq, beq_iff_eq] at hs
      obtain ⟨⟨hc1, hce⟩, hse⟩ := hs
      rcases Go.Deep.open_slice hu h with ⟨rfl, rfl⟩ | ⟨a, len, cap, m, k, Dd, Pl, rfl, hb, hl, hm, hmm, rfl, hx⟩
      · exact ⟨[.sl (.im true) (P.cellsOf e) []], by simp [dataOf, hu], one .nil, by simp [hc1]⟩
      · have hmc : m = cap := by simpa using hmm
        subst hmc
        have hel : ∀ i, i < m → ∃ cs' l, W.cells? 0 (a.add (i * P.cellsOf e)) (P.cellsOf e) = some cs' ∧ dataOf P n e (Dd i) = some l ∧ DataOk W L l cs' ∧ cs'.length = P.cellsOf e := by
          intro i hi
          obtain ⟨cs', h1, h2⟩ := hx i hi
          obtain ⟨l, k1, k2, k3⟩ := ih k e cs' _ hse h2
          exact ⟨cs', l, h1, k1, k2, k3⟩
        let R : Nat → List D := fun i => (dataOf P n e (Dd i)).getD []
        have hrows : (((List.range len).map Dd).mapM (dataOf P n e)) = some ((List.range len).map R) := by
          have : ∀ (l : List Nat), (∀ i ∈ l, i < m) → ((l.map Dd).mapM (dataOf P n e)) = some (l.map R) := by
            intro l
            induction l with
            | nil => intro _; rfl
            | cons i l ihl =>
              intro hi
              obtain ⟨_, r, _, k1, _⟩ := hel i (hi i (List.mem_cons_self ..))
              rw [List.map_cons, List.mapM_cons, k1]
              show (List.mapM (dataOf P n e) (l.map Dd) >>= fun bs => pure (r :: bs)) = _
              rw [ihl (fun i h => hi i (List.mem_cons_of_mem _ h))]
              simp [R, k1]
          exact this _ (fun i hi => by have := List.mem_range.1 hi; omega)
        refine ⟨[.sl (.im false) (P.cellsOf e) ((List.range len).map R)], by simp [dataOf, hu, hrows], one ?_, by simp [hc1]⟩
        by_cases hl0 : len = 0
        · subst hl0
          exact .plE
        · -- where the cells lie
          obtain ⟨cs0, l0, h1, _, _, _⟩ := hel 0 (by omega)
          obtain ⟨g1, g2⟩ := cells_get h1
          have hc := g2 0 hce
          obtain ⟨u0, hu0⟩ : ∃ u, cs0[0]? = some u := ⟨cs0[0]'(by rw [g1]; exact hce), List.getElem?_eq_getElem _⟩
          rw [hu0] at hc
          obtain ⟨hsp, cur, te, fz, hB, _⟩ := cell_inv hc
          have ha0 : ((a.add (0 * P.cellsOf e)).add 0) = a := by simp [Addr.add]
          rw [ha0] at hsp hB
          obtain ⟨B, o, sp⟩ := a
          simp only at hsp hB
          subst hsp
          have hget : ∀ i c, i < m → c < P.cellsOf e → ∃ cs' l, dataOf P n e (Dd i) = some l ∧ DataOk W L l cs' ∧ cs'.length = P.cellsOf e ∧ cur[o + i * P.cellsOf e + c]? = cs'[c]? := by
            intro i c hi hcc
            obtain ⟨cs', l, q1, q2, q3, q4⟩ := hel i hi
            refine ⟨cs', l, q2, q3, q4, ?_⟩
            have q5 := (cells_get q1).2 c hcc
            obtain ⟨u, hu'⟩ : ∃ u, cs'[c]? = some u := ⟨cs'[c]'(by rw [q4]; exact hcc), List.getElem?_eq_getElem _⟩
            rw [hu'] at q5 ⊢
            obtain ⟨_, cur', te', fz', r1, r2⟩ := cell_inv q5
            rw [add_off, add_off] at r1 r2
            rw [hB] at r1
            cases r1
            exact r2
          have hcell : ∀ i c y, cellOf ((List.range len).map R) i c = some y → i < m ∧ c < P.cellsOf e ∧ ∃ u, cur[o + i * P.cellsOf e + c]? = some u ∧ RepP W L y u := by
            intro i c y hy
            obtain ⟨r, hr, hrc⟩ := cellOf_some.1 hy
            rw [List.getElem?_map] at hr
            obtain ⟨i', hi', rfl⟩ := map_some' hr
            have hil : i < len := by
              have := (List.getElem?_eq_some_iff.1 hi').1
              simpa using this
            have hii : i' = i := by simp [hil] at hi'; exact hi'.symm
            subst hii
            obtain ⟨cs1, l1, t1, t2, t3, t4⟩ := hel i' (by omega)
            have hR : R i' = l1 := by simp [R, t2]
            rw [hR] at hrc
            have hcc : c < P.cellsOf e := by rw [← t4, ← t3.1]; exact (List.getElem?_eq_some_iff.1 hrc).1
            obtain ⟨cs2, l2, s1, s2, s3, s4⟩ := hget i' c (by omega) hcc
            rw [t2] at s1
            cases s1
            obtain ⟨u, hu'⟩ : ∃ u, cs2[c]? = some u := ⟨cs2[c]'(by rw [s3]; exact hcc), List.getElem?_eq_getElem _⟩
            exact ⟨by omega, hcc, u, s4.trans hu', s2.2 c y u hrc hu'⟩
          have hrl : ((List.range len).map R).length = len := by simp
          have := @RepP.pl W L (P.cellsOf e) ((List.range len).map R) B o m cur te fz (fun i c => cur.getD (o + i * P.cellsOf e + c) undef) (by intro h; rw [h] at hrl; simp at hrl; omega) hce (by rw [hrl]; exact hl) (hL B cur te fz hB) hB ?_ ?_ ?_
          · rw [hrl] at this; exact this
          · intro r hr
            obtain ⟨i, hi, rfl⟩ := List.mem_map.1 hr
            have hil := List.mem_range.1 hi
            obtain ⟨cs1, l1, t1, t2, t3, t4⟩ := hel i (by omega)
            have hR : R i = l1 := by simp [R, t2]
            rw [hR, t3.1, t4]
          · intro i c y hy
            obtain ⟨_, _, u, h1, _⟩ := hcell i c y hy
            rw [h1, Array.getD_eq_getD_getElem?, h1]; rfl
          · intro i c y hy
            obtain ⟨_, _, u, h1, h2⟩ := hcell i c y hy
            rw [Array.getD_eq_getD_getElem?, h1]; exact h2
    · rename_i fs hu
      simp only [Bool.and_eq_true, List.all_eq_true, beq_iff_eq] at hs
      rw [DataW.trod_step] at h
      unfold DataW.trodStep at h
      simp only [hu] at h
      split at h
      · rename_i hl
        obtain ⟨xs, h1, h2⟩ := map_some' h
        subst h2
        obtain ⟨l, k1, k2⟩ := fields_data (fun t cs x => ih fuel t cs x) cs fs.toList 0 _ hs.2 hs.1 hl h1
        exact ⟨l, by simp [dataOf, hu, k1], by simpa using k2, hl⟩
      · cases h
    · cases hs
end
end Go.Abs
