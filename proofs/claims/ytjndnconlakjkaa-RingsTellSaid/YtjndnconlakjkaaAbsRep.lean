/- How the evaluator's data stand to a world: the relation, and how it is carried. -/
import Derived.Test.YtjndnconlakjkaaAbsCode
import Derived.Calls
import Derived.Laws.Sem
import Derived.Laws.World
set_option linter.unusedVariables false
set_option linter.unusedSimpArgs false
namespace Go.Abs

/-- What the relation knows of a block: nobody writes it; it holds the rows of the slice at that place, from that cell on; it holds a box, from that cell on. -/
inductive Lab where
  | imm
  | row (pl : Place) (o : Nat)
  | box (r : Root) (o : Nat)

abbrev LabF := Nat → Option Lab

def unfroz (n : Nat) (fz : Nat × Nat) : Prop := ∀ j, j < n → ¬ (fz.1 ≤ j ∧ j < fz.2)

def cellOf (rows : List (List D)) (i c : Nat) : Option D := (rows[i]?).bind (·[c]?)

theorem cellOf_some {rows : List (List D)} {i c : Nat} {x : D} : cellOf rows i c = some x ↔ ∃ r, rows[i]? = some r ∧ r[c]? = some x := by
  unfold cellOf
  cases rows[i]? <;> simp

/-- In the world w, under the labels L, the value reads as that datum, and nobody writes what it leads to. -/
inductive RepP (w : World) (L : LabF) : D → Value → Prop where
  | int {k n} : RepP w L (.int k n) (.int k n)
  | bool {b} : RepP w L (.bool b) (.bool b)
  | str {s} : RepP w L (.str s) (.string ⟨s.toArray⟩)
  | nil {sz} : RepP w L (.sl (.im true) sz []) (.slice none 0 0)
  | plE {sz a cap} : RepP w L (.sl (.im false) sz []) (.slice (some a) 0 cap)
  | dead {v} (h : v.oneCell' = true) : RepP w L .dead v
  | pl {sz rows B o cap cur e fz} (val : Nat → Nat → Value) (hne : rows ≠ []) (hsz : 0 < sz) (hcap : rows.length ≤ cap) (hL : L B = some .imm)
      (hB : w.heap[B]? = some (.cells cur e fz)) (hlen : ∀ r ∈ rows, r.length = sz)
      (hv : ∀ i c x, cellOf rows i c = some x → cur[o + i * sz + c]? = some (val i c))
      (hr : ∀ i c x, cellOf rows i c = some x → RepP w L x (val i c)) :
      RepP w L (.sl (.im false) sz rows) (.slice (some ⟨B, o, none⟩) rows.length cap)

/-- The same, slices of the place's own among it. -/
inductive RepD (w : World) (L : LabF) : Place → D → Value → Prop where
  | plain {pl x v} (h : RepP w L x v) : RepD w L pl x v
  | ownE {pl sz a} : RepD w L pl (.sl .own sz []) (.slice (some a) 0 0)
  | own {pl sz rows B o cap cur e fz} (val : Nat → Nat → Value) (hsz : 0 < sz) (hL : L B = some (.row pl o))
      (hB : w.heap[B]? = some (.cells cur e fz)) (hfz : unfroz cur.size fz) (hlen : ∀ r ∈ rows, r.length = sz)
      (hcap : rows.length ≤ cap) (hroom : o + cap * sz ≤ cur.size)
      (hv : ∀ i c x, cellOf rows i c = some x → cur[o + i * sz + c]? = some (val i c))
      (hr : ∀ i c x, cellOf rows i c = some x → RepD w L (pl.sub i c) x (val i c)) :
      RepD w L pl (.sl .own sz rows) (.slice (some ⟨B, o, none⟩) rows.length cap)

theorem RepP.oneCell {w : World} {L : LabF} {x : D} {v : Value} (h : RepP w L x v) : v.oneCell' = true := by
  cases h <;> first | rfl | assumption

theorem RepD.oneCell {w : World} {L : LabF} {pl : Place} {x : D} {v : Value} (h : RepD w L pl x v) : v.oneCell' = true := by
  cases h with
  | plain h => exact h.oneCell
  | ownE => rfl
  | own => rfl

def ImmKept (w w' : World) (L L' : LabF) : Prop := ∀ B, L B = some .imm → L' B = some .imm ∧ w'.heap[B]? = w.heap[B]?

theorem RepP.mono {w w' : World} {L L' : LabF} (himm : ImmKept w w' L L') {x : D} {v : Value} (h : RepP w L x v) : RepP w' L' x v := by
  induction h with
  | int => exact .int
  | bool => exact .bool
  | str => exact .str
  | nil => exact .nil
  | plE => exact .plE
  | dead h => exact .dead h
  | pl val hne hsz hcap hL hB hlen hv hr ih => exact .pl val hne hsz hcap (himm _ hL).1 ((himm _ hL).2.trans hB) hlen hv ih

/-- The relation moves with the places of a family, if their blocks stay as they are. -/
theorem RepD.move {w w' : World} {L L' : LabF} (f : Place → Place) (U : Place → Prop)
    (hU : ∀ q i c, U q → U (q.sub i c)) (hf : ∀ q i c, U q → f (q.sub i c) = (f q).sub i c)
    (himm : ImmKept w w' L L')
    (hrow : ∀ B q o, U q → L B = some (.row q o) → L' B = some (.row (f q) o) ∧ w'.heap[B]? = w.heap[B]?)
    {pl : Place} {x : D} {v : Value} (h : RepD w L pl x v) : U pl → RepD w' L' (f pl) x v := by
  induction h with
  | plain h => exact fun _ => .plain (h.mono himm)
  | ownE => exact fun _ => .ownE
  | @own pl sz rows B o cap cur e fz val hsz hL hB hfz hlen hcap hroom hv hr ih =>
    intro hu
    obtain ⟨h1, h2⟩ := hrow B pl o hu hL
    refine .own val hsz h1 (h2.trans hB) hfz hlen hcap hroom hv ?_
    intro i c x hx
    have := ih i c x hx (hU _ _ _ hu)
    rwa [hf _ _ _ hu] at this

theorem plainR_length : ∀ r : List D, (plainR r).length = r.length
  | [] => rfl
  | _ :: t => by simp [plainR, plainR_length t]
theorem plainRs_length : ∀ r : List (List D), (plainRs r).length = r.length
  | [] => rfl
  | _ :: t => by simp [plainRs, plainRs_length t]
theorem plainR_eq : ∀ r : List D, plainR r = r.map plainD
  | [] => rfl
  | _ :: t => by simp [plainR, plainR_eq t]
theorem plainRs_eq : ∀ r : List (List D), plainRs r = r.map (·.map plainD)
  | [] => rfl
  | _ :: t => by simp [plainRs, plainRs_eq t, plainR_eq]

theorem cellOf_plain (rows : List (List D)) (i c : Nat) : cellOf (plainRs rows) i c = (cellOf rows i c).map plainD := by
  simp only [cellOf, plainRs_eq, List.getElem?_map]
  cases rows[i]? with
  | none => rfl
  | some r => simp

theorem RepP.plainD_eq {w : World} {L : LabF} {x : D} {v : Value} (h : RepP w L x v) : plainD x = x := by
  cases h <;> simp [plainD]

/-- What was a place's own is nobody's from now on. -/
theorem RepD.freeze {w w' : World} {L L' : LabF} (U : Place → Prop)
    (hU : ∀ q i c, U q → U (q.sub i c))
    (himm : ImmKept w w' L L')
    (hrow : ∀ B q o, U q → L B = some (.row q o) → L' B = some .imm ∧ w'.heap[B]? = w.heap[B]?)
    {pl : Place} {x : D} {v : Value} (h : RepD w L pl x v) : U pl → RepP w' L' (plainD x) v := by
  induction h with
  | plain h => intro _; rw [h.plainD_eq]; exact h.mono himm
  | ownE => intro _; simp only [plainD, plainRs]; exact .plE
  | @own pl sz rows B o cap cur e fz val hsz hL hB hfz hlen hcap hroom hv hr ih =>
    intro hu
    obtain ⟨h1, h2⟩ := hrow B pl o hu hL
    simp only [plainD]
    rw [← plainRs_length rows]
    cases hrows : rows with
    | nil => simp only [plainRs, List.length_nil]; exact .plE
    | cons r0 t0 =>
      rw [← hrows]
      refine .pl val (by rw [hrows]; simp [plainRs]) hsz (by rw [plainRs_length]; exact hcap) h1 (h2.trans hB) ?_ ?_ ?_
      · intro r hr'
        rw [plainRs_eq] at hr'
        obtain ⟨r1, h3, rfl⟩ := List.mem_map.1 hr'
        simpa using hlen r1 h3
      · intro i c x hx
        rw [cellOf_plain] at hx
        cases hc : cellOf rows i c with
        | none => simp [hc] at hx
        | some y => exact hv i c y hc
      · intro i c x hx
        rw [cellOf_plain] at hx
        cases hc : cellOf rows i c with
        | none => simp [hc] at hx
        | some y =>
          simp only [hc, Option.map_some, Option.some.injEq] at hx
          subst hx
          exact ih i c y hc (hU _ _ _ hu)

def Place.app (pl : Place) (p : List (Nat × Nat)) : Place := { pl with p := pl.p ++ p }
theorem Place.app_nil (pl : Place) : pl.app [] = pl := by simp [Place.app]
theorem Place.app_cons (pl : Place) (i c : Nat) (p : List (Nat × Nat)) : pl.app ((i, c) :: p) = (pl.sub i c).app p := by simp [Place.app, Place.sub]
theorem Place.app_sub (pl : Place) (i c : Nat) (p : List (Nat × Nat)) : pl.app (p ++ [(i, c)]) = (pl.app p).sub i c := by simp [Place.app, Place.sub]

theorem navD_cons {sz : Nat} {rows : List (List D)} {i c : Nat} {p : List (Nat × Nat)} : navD (.sl .own sz rows) ((i, c) :: p) = (cellOf rows i c).bind (navD · p) := by
  simp [navD, cellOf]

theorem navD_tag {x y : D} {i c : Nat} {p : List (Nat × Nat)} (h : navD x ((i, c) :: p) = some y) : ∃ sz rows z, x = .sl .own sz rows ∧ cellOf rows i c = some z ∧ navD z p = some y := by
  cases x with
  | sl t sz rows =>
    cases t with
    | own =>
      rw [navD_cons] at h
      cases hz : cellOf rows i c with
      | none => simp [hz] at h
      | some z => exact ⟨sz, rows, z, rfl, hz, by simpa [hz] using h⟩
    | im b => simp [navD] at h
  | int => simp [navD] at h
  | bool => simp [navD] at h
  | str => simp [navD] at h
  | dead => simp [navD] at h

/-- What lies at a way through a slice of the place's own. -/
theorem RepD.nav {w : World} {L : LabF} : ∀ (p : List (Nat × Nat)) {pl : Place} {x y : D} {v : Value}, RepD w L pl x v → navD x p = some y →
    ∃ u, RepD w L (pl.app p) y u
  | [], pl, x, y, v, h, hn => by
    simp only [navD, Option.some.injEq] at hn
    subst hn
    rw [Place.app_nil]
    exact ⟨v, h⟩
  | (i, c) :: p, pl, x, y, v, h, hn => by
    obtain ⟨sz, rows, z, rfl, hz, hy⟩ := navD_tag hn
    rw [Place.app_cons]
    cases h with
    | plain h => cases h
    | ownE => simp [cellOf] at hz
    | own val hsz hL hB hfz hlen hcap hroom hv hr => exact RepD.nav p (hr i c z hz) hy

theorem RepD.own_inv {w : World} {L : LabF} {pl : Place} {sz : Nat} {rows : List (List D)} {v : Value} (h : RepD w L pl (.sl .own sz rows) v) :
    (rows = [] ∧ ∃ a, v = .slice (some a) 0 0) ∨
    ∃ B o cap cur e fz, ∃ val : Nat → Nat → Value, v = .slice (some ⟨B, o, none⟩) rows.length cap ∧ 0 < sz ∧ L B = some (.row pl o) ∧
      w.heap[B]? = some (.cells cur e fz) ∧ unfroz cur.size fz ∧ (∀ r ∈ rows, r.length = sz) ∧ rows.length ≤ cap ∧ o + cap * sz ≤ cur.size ∧
      (∀ i c x, cellOf rows i c = some x → cur[o + i * sz + c]? = some (val i c)) ∧
      (∀ i c x, cellOf rows i c = some x → RepD w L (pl.sub i c) x (val i c)) := by
  cases h with
  | plain h => cases h
  | ownE => exact .inl ⟨rfl, _, rfl⟩
  | own val hsz hL hB hfz hlen hcap hroom hv hr => exact .inr ⟨_, _, _, _, _, _, val, rfl, hsz, hL, hB, hfz, hlen, hcap, hroom, hv, hr⟩


theorem cellOf_set {rows : List (List D)} {i c : Nat} {old : D} (h : cellOf rows i c = some old) (z : D) (i' c' : Nat) :
    cellOf (rows.set i ((rows.getD i []).set c z)) i' c' = if i' = i ∧ c' = c then some z else cellOf rows i' c' := by
  obtain ⟨r, hr, hc⟩ := cellOf_some.1 h
  have hi : i < rows.length := (List.getElem?_eq_some_iff.1 hr).1
  have hcl : c < r.length := (List.getElem?_eq_some_iff.1 hc).1
  have hg : rows.getD i [] = r := by rw [List.getD_eq_getElem?_getD, hr]; rfl
  rw [hg]
  unfold cellOf
  rw [List.getElem?_set]
  by_cases h1 : i = i'
  · subst h1
    simp only [if_true, hi, true_and, Option.bind_some, List.getElem?_set, hr]
    by_cases h2 : c = c'
    · subst h2; simp [hcl]
    · simp [h2, Ne.symm h2]
  · simp [h1, Ne.symm h1]

theorem set_rows_len {rows : List (List D)} {sz i c : Nat} {z : D} (hlen : ∀ r ∈ rows, r.length = sz) : ∀ r ∈ rows.set i ((rows.getD i []).set c z), r.length = sz := by
  intro r hr
  by_cases hi : i < rows.length
  · rcases List.mem_or_eq_of_mem_set hr with h | h
    · exact hlen r h
    · subst h
      have hg : rows.getD i [] = rows[i] := by rw [List.getD_eq_getElem?_getD, List.getElem?_eq_getElem hi]; rfl
      rw [List.length_set, hg]
      exact hlen _ (List.getElem_mem hi)
  · rw [List.set_eq_of_length_le (by omega)] at hr
    exact hlen r hr

theorem heap_setCell_ne (w : World) (a : Addr) (u : Value) (B : Nat) (h : B ≠ a.block) : (w.setCell a u).heap[B]? = w.heap[B]? := by
  simp only [World.setCell, Array.getElem?_modify]
  rw [if_neg (fun e => h e.symm)]

theorem heap_setCell_eq (w : World) (B j : Nat) (u : Value) {cur : Array Value} {e : TypeId} {fz : Nat × Nat} (h : w.heap[B]? = some (.cells cur e fz)) :
    (w.setCell ⟨B, j, none⟩ u).heap[B]? = some (.cells (cur.setIfInBounds j u) e fz) := by
  simp [World.setCell, Array.getElem?_modify, h]

theorem idx_ne {sz i c i' c' : Nat} (hc : c < sz) (hc' : c' < sz) (h : ¬ (i' = i ∧ c' = c)) : i * sz + c ≠ i' * sz + c' := by
  intro e
  apply h
  have h1 : (i * sz + c) / sz = i := by rw [Nat.mul_comm, Nat.mul_add_div (by omega)]; rw [Nat.div_eq_of_lt hc]; rfl
  have h2 : (i' * sz + c') / sz = i' := by rw [Nat.mul_comm, Nat.mul_add_div (by omega)]; rw [Nat.div_eq_of_lt hc']; rfl
  have : i = i' := by rw [← h1, ← h2, e]
  subst this
  exact ⟨rfl, by omega⟩

theorem cellOf_lt {rows : List (List D)} {sz i c : Nat} {x : D} (hlen : ∀ r ∈ rows, r.length = sz) (h : cellOf rows i c = some x) : i < rows.length ∧ c < sz := by
  obtain ⟨r, hr, hc⟩ := cellOf_some.1 h
  obtain ⟨hi, rfl⟩ := List.getElem?_eq_some_iff.1 hr
  refine ⟨hi, ?_⟩
  rw [← hlen _ (List.getElem_mem hi)]
  exact (List.getElem?_eq_some_iff.1 hc).1

/-- Under a place: it, or a part of what lies there. -/
def Under (t q : Place) : Prop := ∃ r, q = t.app r

theorem Under.refl (t : Place) : Under t t := ⟨[], (Place.app_nil t).symm⟩
theorem Under.sub {t q : Place} (h : Under t q) (i c : Nat) : Under t (q.sub i c) := by
  obtain ⟨r, rfl⟩ := h
  exact ⟨r ++ [(i, c)], (Place.app_sub t i c r).symm⟩
theorem Place.app_inj {t : Place} {r r' : List (Nat × Nat)} (h : t.app r = t.app r') : r = r' := by
  simpa [Place.app] using h
theorem Under.not_self {t : Place} {i c : Nat} : ¬ Under (t.sub i c) t := by
  rintro ⟨r, h⟩
  have : t.p = t.p ++ [(i, c)] ++ r := congrArg Place.p h
  have := congrArg List.length this
  simp at this
theorem Under.apart {t q : Place} {i c i' c' : Nat} (h : Under (t.sub i c) q) (h' : Under (t.sub i' c') q) : i = i' ∧ c = c' := by
  obtain ⟨r, rfl⟩ := h
  obtain ⟨r', h'⟩ := h'
  have : t.p ++ [(i, c)] ++ r = t.p ++ [(i', c')] ++ r' := congrArg Place.p h'
  simp only [List.append_assoc, List.append_cancel_left_eq, List.singleton_append, List.cons.injEq, Prod.mk.injEq] at this
  exact this.1

theorem setD_cons {sz : Nat} {rows : List (List D)} {i c : Nat} {p : List (Nat × Nat)} {y z : D} (h : cellOf rows i c = some z) :
    setD (.sl .own sz rows) ((i, c) :: p) y = .sl .own sz (rows.set i ((rows.getD i []).set c (setD z p y))) := by
  obtain ⟨r, hr, hc⟩ := cellOf_some.1 h
  have hg : rows.getD i [] = r := by rw [List.getD_eq_getElem?_getD, hr]; rfl
  have hg2 : r.getD c (.bool false) = z := by rw [List.getD_eq_getElem?_getD, hc]; rfl
  rw [setD, hg, hg2]

/-- One cell of a slice of the place's own, however deep, is written. -/
theorem RepD.set {w : World} {L L' : LabF} {B o sz i c : Nat} {rows : List (List D)} {old y : D} {u : Value} (hc : cellOf rows i c = some old) :
    ∀ (p : List (Nat × Nat)) {pl : Place} {x : D} {v : Value}, RepD w L pl x v → navD x p = some (.sl .own sz rows) → L B = some (.row (pl.app p) o) →
      (∀ B' q o', L B' = some (.row q o') → q = pl.app p → B' = B) →
      ImmKept w (w.setCell ⟨B, o + i * sz + c, none⟩ u) L L' →
      (∀ B' q o', Under pl q → ¬ Under ((pl.app p).sub i c) q → L B' = some (.row q o') → L' B' = some (.row q o')) →
      RepD (w.setCell ⟨B, o + i * sz + c, none⟩ u) L' ((pl.app p).sub i c) y u →
      RepD (w.setCell ⟨B, o + i * sz + c, none⟩ u) L' pl (setD x (p ++ [(i, c)]) y) v
  | [], pl, x, v, h, hn, hB, hinj, himm, hrow, hy => by
    simp only [navD, Option.some.injEq] at hn
    subst hn
    rw [Place.app_nil] at *
    rcases h.own_inv with ⟨rfl, _⟩ | ⟨B0, o0, cap, cur, e, fz, val, rfl, hsz, hL, hH, hfz, hlen, hcap, hroom, hv, hr⟩
    · simp [cellOf] at hc
    obtain rfl := hinj B0 pl o0 hL rfl
    obtain rfl : o0 = o := by rw [hL] at hB; simpa using hB
    simp only [List.nil_append]
    rw [setD_cons hc, setD]
    obtain ⟨hi, hcs⟩ := cellOf_lt hlen hc
    have hlen' := set_rows_len (i := i) (c := c) (z := y) hlen
    have hlt : i * sz + c < cap * sz := by
      have : (i + 1) * sz ≤ cap * sz := Nat.mul_le_mul_right _ (by omega)
      rw [Nat.add_mul] at this; omega
    have hrl : (rows.set i ((rows.getD i []).set c y)).length = rows.length := List.length_set ..
    rw [← hrl]
    refine .own (fun a b => if a = i ∧ b = c then u else val a b) hsz (hrow _ _ _ (Under.refl _) Under.not_self hL) (heap_setCell_eq w B0 _ u hH) (by simpa using hfz) hlen' (by rw [hrl]; exact hcap) (by simpa using hroom) ?_ ?_
    · intro a b x hx
      rw [cellOf_set hc] at hx
      by_cases hab : a = i ∧ b = c
      · obtain ⟨rfl, rfl⟩ := hab
        simp only [and_self, if_true]
        rw [Array.getElem?_setIfInBounds]
        simp only [if_true]
        rw [if_pos (by omega)]
      · simp only [hab, if_false] at hx ⊢
        obtain ⟨ha, hb⟩ := cellOf_lt hlen hx
        rw [Array.getElem?_setIfInBounds, if_neg]
        · exact hv a b x hx
        · have := idx_ne hcs hb hab; omega
    · intro a b x hx
      rw [cellOf_set hc] at hx
      by_cases hab : a = i ∧ b = c
      · obtain ⟨rfl, rfl⟩ := hab
        simp only [and_self, if_true, Option.some.injEq] at hx ⊢
        subst hx
        exact hy
      · simp only [hab, if_false] at hx ⊢
        refine RepD.move id (Under (pl.sub a b)) (fun q i c h => h.sub i c) (fun _ _ _ _ => rfl) himm ?_ (hr a b x hx) (Under.refl _)
        intro B' q o' hq hL'
        have hne : ¬ Under (pl.sub i c) q := fun h => hab ⟨(Under.apart hq h).1, (Under.apart hq h).2⟩
        have hsub : Under pl q := by obtain ⟨r, rfl⟩ := hq; exact ⟨(a, b) :: r, (Place.app_cons pl a b r).symm⟩
        refine ⟨hrow _ _ _ hsub hne hL', heap_setCell_ne _ _ _ _ ?_⟩
        rintro rfl
        rw [hL] at hL'
        simp only [Option.some.injEq, Lab.row.injEq] at hL'
        rw [← hL'.1] at hq
        exact Under.not_self hq
  | (a, b) :: p, pl, x, v, h, hn, hB, hinj, himm, hrow, hy => by
    obtain ⟨sz0, rows0, z, rfl, hz, hzy⟩ := navD_tag hn
    rcases h.own_inv with ⟨rfl, _⟩ | ⟨B0, o0, cap, cur, e, fz, val, rfl, hsz, hL, hH, hfz, hlen, hcap, hroom, hv, hr⟩
    · simp [cellOf] at hz
    have hne0 : B0 ≠ B := by
      rintro rfl
      rw [hL] at hB
      simp only [Option.some.injEq, Lab.row.injEq] at hB
      have := congrArg (fun q : Place => q.p.length) hB.1
      simp [Place.app] at this
    have hcell := cellOf_set hz (setD z (p ++ [(i, c)]) y)
    simp only [List.cons_append]
    rw [setD_cons hz]
    have hrl : (rows0.set a ((rows0.getD a []).set b (setD z (p ++ [(i, c)]) y))).length = rows0.length := List.length_set ..
    have hup : ∀ q, Under (pl.sub a b) q → Under pl q := by rintro q ⟨r, rfl⟩; exact ⟨(a, b) :: r, (Place.app_cons pl a b r).symm⟩
    have ht : Under (pl.sub a b) ((pl.app ((a, b) :: p)).sub i c) := by rw [Place.app_cons]; exact ⟨p ++ [(i, c)], (Place.app_sub _ i c p).symm⟩
    rw [← hrl]
    refine .own val hsz (hrow _ _ _ (Under.refl _) ?_ hL) ((heap_setCell_ne _ _ _ _ hne0).trans hH) hfz (set_rows_len hlen) (by rw [hrl]; exact hcap) hroom ?_ ?_
    · rintro ⟨r, h1⟩
      obtain ⟨r2, h2⟩ := ht
      have h3 := congrArg (fun q : Place => q.p.length) h1
      have h4 := congrArg (fun q : Place => q.p.length) h2
      simp [Place.app, Place.sub] at h3 h4
    · intro a' b' x hx
      rw [hcell] at hx
      by_cases hab : a' = a ∧ b' = b
      · obtain ⟨rfl, rfl⟩ := hab; exact hv _ _ z hz
      · simp only [hab, if_false] at hx; exact hv _ _ x hx
    · intro a' b' x hx
      rw [hcell] at hx
      by_cases hab : a' = a ∧ b' = b
      · obtain ⟨rfl, rfl⟩ := hab
        simp only [and_self, if_true, Option.some.injEq] at hx
        subst hx
        rw [Place.app_cons] at hB hinj hrow hy
        exact RepD.set hc p (hr _ _ z hz) hzy hB hinj himm (fun B' q o' h1 h2 h3 => hrow B' q o' (hup q h1) h2 h3) hy
      · simp only [hab, if_false] at hx
        refine RepD.move id (Under (pl.sub a' b')) (fun q i c h => h.sub i c) (fun _ _ _ _ => rfl) himm ?_ (hr a' b' x hx) (Under.refl _)
        intro B' q o' hq hL'
        have hne : ¬ Under (pl.sub a b) q := fun h => hab ⟨(Under.apart hq h).1, (Under.apart hq h).2⟩
        have hnt : ¬ Under ((pl.app ((a, b) :: p)).sub i c) q := by
          rintro ⟨r, rfl⟩
          apply hne
          obtain ⟨r2, h2⟩ := ht
          rw [h2]
          exact ⟨r2 ++ r, by simp [Place.app]⟩
        have hsub : Under pl q := by obtain ⟨r, rfl⟩ := hq; exact ⟨(a', b') :: r, (Place.app_cons pl a' b' r).symm⟩
        refine ⟨hrow _ _ _ hsub hnt hL', heap_setCell_ne _ _ _ _ ?_⟩
        rintro rfl
        have := hL'
        rw [hB] at this
        simp only [Option.some.injEq, Lab.row.injEq] at this
        apply hne
        rw [← this.1, Place.app_cons]
        exact ⟨p, rfl⟩

/-- What lies at a way turns for another reading of the same memory. -/
theorem RepD.subst {w : World} {L L' : LabF} {z y : D} :
    ∀ (p : List (Nat × Nat)) {pl : Place} {x : D} {v : Value}, RepD w L pl x v → navD x p = some z →
      ImmKept w w L L' →
      (∀ B' q o', Under pl q → ¬ Under (pl.app p) q → L B' = some (.row q o') → L' B' = some (.row q o')) →
      (∀ u, RepD w L (pl.app p) z u → RepD w L' (pl.app p) y u) →
      RepD w L' pl (setD x p y) v
  | [], pl, x, v, h, hn, himm, hrow, hy => by
    simp only [navD, Option.some.injEq] at hn
    subst hn
    rw [Place.app_nil] at hy
    rw [setD]
    exact hy v h
  | (a, b) :: p, pl, x, v, h, hn, himm, hrow, hy => by
    obtain ⟨sz0, rows0, z0, rfl, hz, hzy⟩ := navD_tag hn
    rcases h.own_inv with ⟨rfl, _⟩ | ⟨B0, o0, cap, cur, e, fz, val, rfl, hsz, hL, hH, hfz, hlen, hcap, hroom, hv, hr⟩
    · simp [cellOf] at hz
    have hcell := cellOf_set hz (setD z0 p y)
    rw [setD_cons hz]
    have hrl : (rows0.set a ((rows0.getD a []).set b (setD z0 p y))).length = rows0.length := List.length_set ..
    have hup : ∀ q, Under (pl.sub a b) q → Under pl q := by rintro q ⟨r, rfl⟩; exact ⟨(a, b) :: r, (Place.app_cons pl a b r).symm⟩
    have ht : Under (pl.sub a b) (pl.app ((a, b) :: p)) := by rw [Place.app_cons]; exact ⟨p, rfl⟩
    rw [← hrl]
    refine .own val hsz (hrow _ _ _ (Under.refl _) ?_ hL) hH hfz (set_rows_len hlen) (by rw [hrl]; exact hcap) hroom ?_ ?_
    · rintro ⟨r, h1⟩
      have h3 := congrArg (fun q : Place => q.p.length) h1
      simp [Place.app, Place.sub] at h3
    · intro a' b' x hx
      rw [hcell] at hx
      by_cases hab : a' = a ∧ b' = b
      · obtain ⟨rfl, rfl⟩ := hab; exact hv _ _ z0 hz
      · simp only [hab, if_false] at hx; exact hv _ _ x hx
    · intro a' b' x hx
      rw [hcell] at hx
      by_cases hab : a' = a ∧ b' = b
      · obtain ⟨rfl, rfl⟩ := hab
        simp only [and_self, if_true, Option.some.injEq] at hx
        subst hx
        rw [Place.app_cons] at hrow hy
        exact RepD.subst p (hr _ _ z0 hz) hzy himm (fun B' q o' h1 h2 h3 => hrow B' q o' (hup q h1) h2 h3) hy
      · simp only [hab, if_false] at hx
        refine RepD.move id (Under (pl.sub a' b')) (fun q i c h => h.sub i c) (fun _ _ _ _ => rfl) himm ?_ (hr a' b' x hx) (Under.refl _)
        intro B' q o' hq hL'
        have hne : ¬ Under (pl.sub a b) q := fun h => hab ⟨(Under.apart hq h).1, (Under.apart hq h).2⟩
        have hnt : ¬ Under (pl.app ((a, b) :: p)) q := by
          rintro ⟨r, rfl⟩
          apply hne
          obtain ⟨r2, h2⟩ := ht
          rw [h2]
          exact ⟨r2 ++ r, by simp [Place.app]⟩
        have hsub : Under pl q := by obtain ⟨r, rfl⟩ := hq; exact ⟨(a', b') :: r, (Place.app_cons pl a' b' r).symm⟩
        exact ⟨hrow _ _ _ hsub hnt hL', rfl⟩
end Go.Abs
