/- Cells, slots, states against a world. -/
import Derived.Test.YtjndnconlakjkaaAbsRep
set_option linter.unusedVariables false
set_option linter.unusedSimpArgs false
namespace Go.Abs

def ViewAt (w : World) (L : LabF) (pl : Place) (sz off len : Nat) (v : Value) : Prop :=
  (len = 0 ∧ ∃ a, v = .slice (some a) 0 0) ∨
  ∃ B o cap cur e fz, v = .slice (some ⟨B, o + off * sz, none⟩) len cap ∧ 0 < sz ∧ L B = some (.row pl o) ∧ w.heap[B]? = some (.cells cur e fz) ∧
    unfroz cur.size fz ∧ len ≤ cap ∧ o + off * sz + cap * sz ≤ cur.size

/-- What was appended: the rows' own parts lie under the place up to some row, from there on where the appended slice lies. -/
def AppAt (w : World) (L : LabF) (pl : Place) (sz : Nat) (rows : List (List D)) (t : Place) (v : Value) : Prop :=
  (rows = [] ∧ ∃ a, v = .slice (some a) 0 0) ∨
  ∃ B o cap cur e fz n0, ∃ val : Nat → Nat → Value, v = .slice (some ⟨B, o, none⟩) rows.length cap ∧ 0 < sz ∧ (L B = some (.row pl o) ∨ L B = some (.row t o)) ∧
    w.heap[B]? = some (.cells cur e fz) ∧ unfroz cur.size fz ∧ (∀ r ∈ rows, r.length = sz) ∧ rows.length ≤ cap ∧ o + cap * sz ≤ cur.size ∧
    (∀ i c x, cellOf rows i c = some x → cur[o + i * sz + c]? = some (val i c)) ∧
    (∀ i c x, cellOf rows i c = some x → RepD w L ((if i < n0 then pl else t).sub i c) x (val i c))

mutual
/-- Nothing of the place's own in it. -/
def C.clean : C → Bool
  | .d (.sl .own _ _) => false
  | .appd .. => false
  | .fn _ a b => cleanL a && cleanL b
  | _ => true
def cleanL : List C → Bool
  | [] => true
  | c :: t => c.clean && cleanL t
end
mutual
def V.clean : V → Bool
  | .one c => c.clean
  | .agg cs => cleanL cs
  | .tup vs => cleanVs vs
def cleanVs : List V → Bool
  | [] => true
  | v :: t => v.clean && cleanVs t
end

theorem cleanL_get : ∀ {l : List C} {i : Nat} {c : C}, cleanL l = true → l[i]? = some c → c.clean = true
  | [], _, _, _, h => by simp at h
  | x :: t, 0, c, h, hc => by simp only [cleanL, Bool.and_eq_true] at h; simp at hc; subst hc; exact h.1
  | x :: t, i + 1, c, h, hc => by simp only [cleanL, Bool.and_eq_true] at h; exact cleanL_get h.2 (by simpa using hc)
theorem cleanVs_get : ∀ {l : List V} {i : Nat} {c : V}, cleanVs l = true → l[i]? = some c → c.clean = true
  | [], _, _, _, h => by simp at h
  | x :: t, 0, c, h, hc => by simp only [cleanVs, Bool.and_eq_true] at h; simp at hc; subst hc; exact h.1
  | x :: t, i + 1, c, h, hc => by simp only [cleanVs, Bool.and_eq_true] at h; exact cleanVs_get h.2 (by simpa using hc)

/-- An entry in which slices may lie. -/
def Key.isPl : Key → Bool
  | .s _ => true
  | .b _ _ => true
  | _ => false

/-- A slice of that length, of whatever memory. -/
def SliceLike (len : Nat) (v : Value) : Prop := ∃ b c, v = .slice b len c ∧ len ≤ c ∧ b.isSome = true

section
variable (nm : FuncId → Option Nat) (w : World) (L : LabF) (γ : Key → Nat)

inductive RepC : Key → Nat → C → Value → Prop where
  | d {k j x v} (h : RepD w L ⟨k, j, []⟩ x v) : RepC k j (.d x) v
  | ptr {k j r g c v} (hv : ∃ ad, v = .pointer (some ad)) (hg : g ≤ γ (.r r))
      (h : g = γ (.r r) → ∃ B o, L B = some (.box r o) ∧ v = .pointer (some ⟨B, o + c, none⟩)) : RepC k j (.ptr r g c) v
  | eptr {k j pl g sz i c v} (hv : ∃ ad, v = .pointer (some ad)) (hh : pl.k.isPl = true) (hg : g ≤ γ pl.k)
      (h : g = γ pl.k → ∃ B o, L B = some (.row pl o) ∧ v = .pointer (some ⟨B, o + i * sz + c, none⟩)) : RepC k j (.eptr pl g sz i c) v
  | pp {k j cells B o cur e fz} (hL : L B = some .imm) (hB : w.heap[B]? = some (.cells cur e fz))
      (h : ∀ q x, cells[q]? = some x → ∃ u, cur[o + q]? = some u ∧ RepP w L x u) : RepC k j (.pp cells) (.pointer (some ⟨B, o, none⟩))
  | view {k j pl g sz off len v} (hv : SliceLike len v) (hh : pl.k.isPl = true) (hg : g ≤ γ pl.k) (h : g = γ pl.k → ViewAt w L pl sz off len v) : RepC k j (.view pl g sz off len) v
  | appd {k j pl g a sz rows v} (hv : v.oneCell' = true) (hh : pl.k.isPl = true) (hg : g ≤ γ pl.k) (ha : a ≤ γ (.a pl.k))
      (h : g = γ pl.k → a = γ (.a pl.k) → AppAt w L pl sz rows ⟨k, j, []⟩ v) : RepC k j (.appd pl g a sz rows) v
  | fn {k j f first cap fid} {fs cs : Array Value} (hf : nm fid = some f) (h1 : first.length = fs.size) (h2 : cap.length = cs.size) (hcl : cleanL first = true ∧ cleanL cap = true)
      (h3 : ∀ (i : Nat) x u, first[i]? = some x → fs[i]? = some u → RepC k j x u)
      (h4 : ∀ (i : Nat) x u, cap[i]? = some x → cs[i]? = some u → RepC k j x u) : RepC k j (.fn f first cap) (.func (.func fid) fs cs)
  | nilp {k j} : RepC k j .nilp (.pointer none)
  | nilf {k j} : RepC k j .nilf .nilFunc
  | nili {k j} : RepC k j .nili .nilIface
  | ifc {k j t u} : RepC k j .ifc (.iface t u)
  | dead {k j v} : RepC k j .dead v

inductive RepV : Key → V → Value → Prop where
  | one {k c v} (h : RepC nm w L γ k 0 c v) : RepV k (.one c) v
  | agg {k cs} {vs : Array Value} (hl : cs.length = vs.size) (h : ∀ (j : Nat) c u, cs[j]? = some c → vs[j]? = some u → RepC nm w L γ k j c u) : RepV k (.agg cs) (.agg vs)
  | tup {k vs} {us : Array Value} (hl : vs.length = us.size) (hcl : cleanVs vs = true) (h : ∀ (i : Nat) x u, vs[i]? = some x → us[i]? = some u → RepV k x u) : RepV k (.tup vs) (.tuple us)
end

theorem RepC.oneCell {nm : FuncId → Option Nat} {w : World} {L : LabF} {γ : Key → Nat} {k : Key} {j : Nat} {c : C} {v : Value} (h : RepC nm w L γ k j c v) (hc : c ≠ .dead) : v.oneCell' = true := by
  cases h with
  | d h => exact h.oneCell
  | ptr hv => obtain ⟨ad, rfl⟩ := hv; rfl
  | eptr hv => obtain ⟨ad, rfl⟩ := hv; rfl
  | pp => rfl
  | view hv => obtain ⟨b, c, rfl, _⟩ := hv; rfl
  | appd hv => exact hv
  | fn => rfl
  | nilp => rfl
  | nilf => rfl
  | nili => rfl
  | ifc => rfl
  | dead => exact absurd rfl hc

/-- What a step may do to what cells speak of. -/
structure Step (w w' : World) (L L' : LabF) (γ γ' : Key → Nat) : Prop where
  imm : ImmKept w w' L L'
  cnt : ∀ k, γ k ≤ γ' k
  view : ∀ B q o, q.k.isPl = true → γ' q.k = γ q.k → L B = some (.row q o) → L' B = some (.row q o) ∧
    ∀ cur e fz, w.heap[B]? = some (.cells cur e fz) → ∃ cur' : Array Value, w'.heap[B]? = some (.cells cur' e fz) ∧ cur'.size = cur.size
  app : ∀ B q o, q.k.isPl = true → γ' q.k = γ q.k → γ' (.a q.k) = γ (.a q.k) → L B = some (.row q o) → w'.heap[B]? = w.heap[B]?
  box : ∀ B r o, γ' (.r r) = γ (.r r) → L B = some (.box r o) → L' B = some (.box r o)

theorem ViewAt.step {w w' : World} {L L' : LabF} {γ γ' : Key → Nat} (hs : Step w w' L L' γ γ') {pl : Place} {sz off len : Nat} {v : Value}
    (hh : pl.k.isPl = true) (hk : γ' pl.k = γ pl.k) (h : ViewAt w L pl sz off len v) : ViewAt w' L' pl sz off len v := by
  rcases h with h | ⟨B, o, cap, cur, e, fz, rfl, hsz, hL, hB, hfz, hc, hr⟩
  · exact .inl h
  · obtain ⟨h1, h2⟩ := hs.view B pl o hh hk hL
    obtain ⟨cur', h3, h4⟩ := h2 _ _ _ hB
    exact .inr ⟨B, o, cap, cur', e, fz, rfl, hsz, h1, h3, by rw [h4]; exact hfz, hc, by rw [h4]; exact hr⟩

def Place.at (q : Place) (k : Key) (j : Nat) : Place := ⟨k, j, q.p⟩

theorem AppAt.step {w w' : World} {L L' : LabF} {γ γ' : Key → Nat} (hs : Step w w' L L' γ γ') {pl : Place} {k k' : Key} {j j' : Nat} {sz : Nat} {rows : List (List D)} {v : Value}
    (hh : pl.k.isPl = true) (hk : γ' pl.k = γ pl.k) (ha : γ' (.a pl.k) = γ (.a pl.k))
    (ht : ∀ B q o, q.k = k → q.j = j → L B = some (.row q o) → L' B = some (.row (q.at k' j') o) ∧ w'.heap[B]? = w.heap[B]?)
    (h : AppAt w L pl sz rows ⟨k, j, []⟩ v) : AppAt w' L' pl sz rows ⟨k', j', []⟩ v := by
  rcases h with h | ⟨B, o, cap, cur, e, fz, n0, val, rfl, hsz, hL, hB, hfz, hlen, hc, hr, hv, hd⟩
  · exact .inl h
  · have hd' : ∀ i c x, cellOf rows i c = some x → RepD w' L' ((if i < n0 then pl else ⟨k', j', []⟩).sub i c) x (val i c) := by
      intro i c x hx
      have h0 := hd i c x hx
      by_cases hi : i < n0
      · rw [if_pos hi] at h0 ⊢
        refine RepD.move id (fun q => q.k = pl.k) (fun _ _ _ h => h) (fun _ _ _ _ => rfl) hs.imm ?_ h0 rfl
        intro B q o hq hL
        have hq1 : γ' q.k = γ q.k := by rw [hq]; exact hk
        have hq2 : γ' (.a q.k) = γ (.a q.k) := by rw [hq]; exact ha
        have hq0 : q.k.isPl = true := by rw [hq]; exact hh
        exact ⟨(hs.view B q o hq0 hq1 hL).1, hs.app B q o hq0 hq1 hq2 hL⟩
      · rw [if_neg hi] at h0 ⊢
        exact RepD.move (fun q => q.at k' j') (fun q => q.k = k ∧ q.j = j) (fun _ _ _ h => h) (fun _ _ _ _ => rfl) hs.imm (fun B q o hq hL => ht B q o hq.1 hq.2 hL) h0 ⟨rfl, rfl⟩
    rcases hL with hL | hL
    · exact .inr ⟨B, o, cap, cur, e, fz, n0, val, rfl, hsz, .inl (hs.view B pl o hh hk hL).1, (hs.app B pl o hh hk ha hL).trans hB, hfz, hlen, hc, hr, hv, hd'⟩
    · have := ht B _ o rfl rfl hL
      exact .inr ⟨B, o, cap, cur, e, fz, n0, val, rfl, hsz, .inr this.1, this.2.trans hB, hfz, hlen, hc, hr, hv, hd'⟩

/-- A cell over a step, to another place or not. -/
theorem RepC.step {nm : FuncId → Option Nat} {w w' : World} {L L' : LabF} {γ γ' : Key → Nat} (hs : Step w w' L L' γ γ') {k k' : Key} {j j' : Nat}
    (hown : ∀ B q o, q.k = k → q.j = j → L B = some (.row q o) → L' B = some (.row (q.at k' j') o) ∧ w'.heap[B]? = w.heap[B]?)
    {c : C} {v : Value} (h : RepC nm w L γ k j c v) : RepC nm w' L' γ' k' j' c v := by
  induction h with
  | d h =>
    refine .d ?_
    exact RepD.move (fun q => q.at k' j') (fun q => q.k = _ ∧ q.j = _) (fun _ _ _ h => h) (fun _ _ _ _ => rfl) hs.imm (fun B q o hq hL => hown B q o hq.1 hq.2 hL) h ⟨rfl, rfl⟩
  | @ptr r g c v hv hg h =>
    refine .ptr hv (Nat.le_trans hg (hs.cnt _)) ?_
    intro he
    have : γ' (.r r) = γ (.r r) := Nat.le_antisymm (he ▸ hg) (hs.cnt _)
    obtain ⟨B, o, h1, h2⟩ := h (he.trans this)
    exact ⟨B, o, hs.box B r o this h1, h2⟩
  | @eptr pl g sz i c v hv hh hg h =>
    refine .eptr hv hh (Nat.le_trans hg (hs.cnt _)) ?_
    intro he
    have : γ' pl.k = γ pl.k := Nat.le_antisymm (he ▸ hg) (hs.cnt _)
    obtain ⟨B, o, h1, h2⟩ := h (he.trans this)
    exact ⟨B, o, (hs.view B pl o hh this h1).1, h2⟩
  | pp hL hB h =>
    refine .pp (hs.imm _ hL).1 ((hs.imm _ hL).2.trans hB) ?_
    intro q x hx
    obtain ⟨u, h1, h2⟩ := h q x hx
    exact ⟨u, h1, h2.mono hs.imm⟩
  | @view pl g sz off len v hv hh hg h =>
    refine .view hv hh (Nat.le_trans hg (hs.cnt _)) ?_
    intro he
    have : γ' pl.k = γ pl.k := Nat.le_antisymm (he ▸ hg) (hs.cnt _)
    exact (h (he.trans this)).step hs hh this
  | @appd pl g a sz rows v hv hh hg ha h =>
    refine .appd hv hh (Nat.le_trans hg (hs.cnt _)) (Nat.le_trans ha (hs.cnt _)) ?_
    intro he hae
    have h1 : γ' pl.k = γ pl.k := Nat.le_antisymm (he ▸ hg) (hs.cnt _)
    have h2 : γ' (.a pl.k) = γ (.a pl.k) := Nat.le_antisymm (hae ▸ ha) (hs.cnt _)
    exact (h (he.trans h1) (hae.trans h2)).step hs hh h1 h2 hown
  | fn hf h1 h2 hcl h3 h4 ih3 ih4 => exact .fn hf h1 h2 hcl ih3 ih4
  | nilp => exact .nilp
  | nilf => exact .nilf
  | nili => exact .nili
  | ifc => exact .ifc
  | dead => exact .dead

theorem RepV.step {nm : FuncId → Option Nat} {w w' : World} {L L' : LabF} {γ γ' : Key → Nat} (hs : Step w w' L L' γ γ') {k k' : Key}
    (hown : ∀ B q o, q.k = k → L B = some (.row q o) → L' B = some (.row (q.at k' q.j) o) ∧ w'.heap[B]? = w.heap[B]?)
    {x : V} {v : Value} (h : RepV nm w L γ k x v) : RepV nm w' L' γ' k' x v := by
  induction h with
  | one h => exact .one (h.step hs (fun B q o h1 h2 hL => by have := hown B q o h1 hL; rwa [h2] at this))
  | agg hl h => exact .agg hl (fun j c u hc hu => (h j c u hc hu).step hs (fun B q o h1 h2 hL => by have := hown B q o h1 hL; rwa [h2] at this))
  | tup hl hcl h ih => exact .tup hl hcl ih

/-- What has nothing of a place's own reads the same at every place. -/
theorem RepC.any {nm : FuncId → Option Nat} {w : World} {L : LabF} {γ : Key → Nat} {k : Key} {j : Nat} {c : C} {v : Value} (h : RepC nm w L γ k j c v)
    (hc : c.clean = true) (k' : Key) (j' : Nat) : RepC nm w L γ k' j' c v := by
  induction h with
  | @d x v h =>
    cases h with
    | plain h => exact .d (.plain h)
    | ownE => simp [C.clean] at hc
    | own => simp [C.clean] at hc
  | ptr hv hg h => exact .ptr hv hg h
  | eptr hv hh hg h => exact .eptr hv hh hg h
  | pp hL hB h => exact .pp hL hB h
  | view hv hh hg h => exact .view hv hh hg h
  | appd => simp [C.clean] at hc
  | fn hf h1 h2 hcl h3 h4 ih3 ih4 =>
    exact .fn hf h1 h2 hcl (fun i x u hx hu => ih3 i x u hx hu (cleanL_get hcl.1 hx)) (fun i x u hx hu => ih4 i x u hx hu (cleanL_get hcl.2 hx))
  | nilp => exact .nilp
  | nilf => exact .nilf
  | nili => exact .nili
  | ifc => exact .ifc
  | dead => exact .dead

theorem RepC.clean_of {nm : FuncId → Option Nat} {w : World} {L : LabF} {γ : Key → Nat} {k : Key} {j : Nat} {c : C} {v : Value} (h : RepC nm w L γ k j c v)
    (hc : c.own = false) : c.clean = true := by
  cases h with
  | @d x v h =>
    cases x with
    | sl t sz rows => cases t <;> simp_all [C.own, C.clean]
    | _ => rfl
  | appd => simp [C.own] at hc
  | fn hf h1 h2 hcl h3 h4 => simp [C.clean, hcl.1, hcl.2]
  | _ => rfl

theorem RepV.any {nm : FuncId → Option Nat} {w : World} {L : LabF} {γ : Key → Nat} {k : Key} {x : V} {v : Value} (h : RepV nm w L γ k x v)
    (hc : x.clean = true) (k' : Key) : RepV nm w L γ k' x v := by
  induction h with
  | one h => exact .one (h.any hc _ _)
  | agg hl h => exact .agg hl (fun j c u h1 h2 => (h j c u h1 h2).any (cleanL_get hc h1) _ _)
  | tup hl hcl h ih => exact .tup hl hcl (fun i x u h1 h2 => ih i x u h1 h2 (cleanVs_get hcl h1))

/-- Every label speaks of memory. -/
def Dom (w : World) (L : LabF) : Prop := ∀ B l, L B = some l → ∃ cur e fz, w.heap[B]? = some (.cells cur e fz)
def RowInj (L : LabF) : Prop := ∀ B B' pl o o', L B = some (.row pl o) → L B' = some (.row pl o') → B = B'
def BoxInj (L : LabF) : Prop := ∀ B B' r o o', L B = some (.box r o) → L B' = some (.box r o') → B = B'

/-- A cell of a box in memory; a lent head lies in none. -/
def CellAt (nm : FuncId → Option Nat) (w : World) (L : LabF) (γ : Key → Nat) (r : Root) (c : Nat) (x : C) : Prop :=
  match r with
  | .g _ => ∃ v, RepC nm w L γ (.b r c) 0 x v
  | _ => ∃ B o cur e fz v, L B = some (.box r o) ∧ w.heap[B]? = some (.cells cur e fz) ∧ unfroz cur.size fz ∧ cur[o + c]? = some v ∧ RepC nm w L γ (.b r c) 0 x v

/-- Entries (their content E, their counts γ) against a frame and a world. -/
structure RelO (nm : FuncId → Option Nat) (N : Nat) (E : Key → V) (γ : Key → Nat) (a : Act) (w : World) (L : LabF) : Prop where
  size : a.tmps.size = N
  defers : a.defers = []
  slot : ∀ i, RepV nm w L γ (.s i) (E (.s i)) (a.tmps.getD i undef)
  cell : ∀ r c x, E (.b r c) = .one x → x ≠ .dead → CellAt nm w L γ r c x
  bone : ∀ r c, ∃ y, E (.b r c) = .one y
  bound : ∀ r c, boxN (E (.r r)) ≤ c → E (.b r c) = .one .dead
  room : ∀ r, r.isG = false → 0 < boxN (E (.r r)) → ∃ B o cur e fz, L B = some (.box r o) ∧ w.heap[B]? = some (.cells cur e fz) ∧ unfroz cur.size fz ∧ o + boxN (E (.r r)) ≤ cur.size
  dom : Dom w L
  rowInj : RowInj L
  boxInj : BoxInj L

def St.E (S : St) (k : Key) : V := (S.get k).v
def St.γ (S : St) (k : Key) : Nat := (S.get k).g

def Rel (nm : FuncId → Option Nat) (N : Nat) (S : St) (a : Act) (w : World) (L : LabF) : Prop := RelO nm N S.E S.γ a w L

/-- What a piece of code does to the world beside what is its own: nothing. -/
structure Mono (w w' : World) (L L' : LabF) : Prop where
  os : w'.os = w.os
  tape : w'.tape = w.tape
  output : w'.output = w.output
  size : w.heap.size ≤ w'.heap.size
  imm : ImmKept w w' L L'
  none : ∀ B, B < w.heap.size → L B = none → L' B = none ∧ w'.heap[B]? = w.heap[B]?
  ebox : ∀ B i o, L B = some (.box (.e i) o) → L' B = some (.box (.e i) o)

theorem Mono.refl (w : World) (L : LabF) : Mono w w L L := ⟨rfl, rfl, rfl, Nat.le_refl _, fun _ h => ⟨h, rfl⟩, fun _ _ h => ⟨h, rfl⟩, fun _ _ _ h => h⟩
theorem Mono.trans {w1 w2 w3 : World} {L1 L2 L3 : LabF} (h : Mono w1 w2 L1 L2) (k : Mono w2 w3 L2 L3) : Mono w1 w3 L1 L3 :=
  ⟨k.os.trans h.os, k.tape.trans h.tape, k.output.trans h.output, Nat.le_trans h.size k.size,
    fun B hB => ⟨(k.imm B (h.imm B hB).1).1, (k.imm B (h.imm B hB).1).2.trans (h.imm B hB).2⟩,
    fun B hlt hB => ⟨(k.none B (Nat.lt_of_lt_of_le hlt h.size) (h.none B hlt hB).1).1, (k.none B (Nat.lt_of_lt_of_le hlt h.size) (h.none B hlt hB).1).2.trans (h.none B hlt hB).2⟩, fun B i o hB => k.ebox B i o (h.ebox B i o hB)⟩


theorem St.get_wr (S : St) (x : Wr) (k : Key) : (S.wr x).get k = if x.k = k then ⟨x.v, if x.keep then (S.get x.k).g else (S.get x.k).g + 1⟩ else S.get k := by
  unfold St.wr; rw [St.get_put]
theorem St.E_wr (S : St) (x : Wr) (k : Key) : (S.wr x).E k = if x.k = k then x.v else S.E k := by
  unfold St.E; rw [St.get_wr]; split <;> rfl
theorem St.γ_wr (S : St) (x : Wr) (k : Key) : (S.wr x).γ k = if x.k = k then (if x.keep then S.γ k else S.γ k + 1) else S.γ k := by
  unfold St.γ; rw [St.get_wr]
  by_cases h : x.k = k
  · subst h; simp only [if_true]
  · simp [h]

/-- What is asked of a write's new content. -/
def NewOk (nm : FuncId → Option Nat) (E : Key → V) (γ : Key → Nat) (a : Act) (w : World) (L : LabF) (k : Key) (v : V) : Prop :=
  match k with
  | .s i => RepV nm w L γ (.s i) v (a.tmps.getD i undef)
  | .b r c => ∃ y, v = .one y ∧ (y ≠ .dead → c < boxN (E (.r r)) ∧ CellAt nm w L γ r c y)
  | .r _ => False
  | _ => True

theorem CellAt.step {nm : FuncId → Option Nat} {w w' : World} {L L' : LabF} {γ γ' : Key → Nat} (hs : Step w w' L L' γ γ') {r : Root} {c : Nat} {x : C}
    (hown : ∀ B q o, q.k = .b r c → L B = some (.row q o) → L' B = some (.row q o) ∧ w'.heap[B]? = w.heap[B]?)
    (hbox : ∀ B o, L B = some (.box r o) → L' B = some (.box r o) ∧
      ∀ cur e fz, w.heap[B]? = some (.cells cur e fz) → ∃ cur' : Array Value, w'.heap[B]? = some (.cells cur' e fz) ∧ cur'.size = cur.size ∧ cur'[o + c]? = cur[o + c]?)
    (h : CellAt nm w L γ r c x) : CellAt nm w' L' γ' r c x := by
  have hc : ∀ v, RepC nm w L γ (.b r c) 0 x v → RepC nm w' L' γ' (.b r c) 0 x v := fun v hv =>
    hv.step hs (fun B q o h1 h2 hL => by
      have := hown B q o h1 hL
      have hq : q.at (.b r c) 0 = q := by cases q; simp only [Place.at] at *; subst h1; subst h2; rfl
      rw [hq]; exact this)
  cases r with
  | g i => obtain ⟨v, hv⟩ := h; exact ⟨v, hc v hv⟩
  | e i =>
    obtain ⟨B, o, cur, e, fz, v, h1, h2, h3, h4, h5⟩ := h
    obtain ⟨g1, g2⟩ := hbox B o h1
    obtain ⟨cur', g3, g4, g5⟩ := g2 _ _ _ h2
    exact ⟨B, o, cur', e, fz, v, g1, g3, by rw [g4]; exact h3, g5.trans h4, hc v h5⟩
  | l i =>
    obtain ⟨B, o, cur, e, fz, v, h1, h2, h3, h4, h5⟩ := h
    obtain ⟨g1, g2⟩ := hbox B o h1
    obtain ⟨cur', g3, g4, g5⟩ := g2 _ _ _ h2
    exact ⟨B, o, cur', e, fz, v, g1, g3, by rw [g4]; exact h3, g5.trans h4, hc v h5⟩

theorem Place.at_self (q : Place) : q.at q.k q.j = q := by cases q; rfl

/-- One write, with what it may turn in the frame and in the world. -/
theorem Rel.write {nm : FuncId → Option Nat} {N : Nat} {S : St} {a a' : Act} {w w' : World} {L L' : LabF} (h : Rel nm N S a w L) (x : Wr)
    (hsz : a'.tmps.size = a.tmps.size) (hdf : a'.defers = [])
    (htm : ∀ i, x.k ≠ .s i → a'.tmps.getD i undef = a.tmps.getD i undef)
    (hs : Step w w' L L' S.γ (S.wr x).γ)
    (hown : ∀ B q o, q.k ≠ x.k → q.k.isPl = true → L B = some (.row q o) → L' B = some (.row q o) ∧ w'.heap[B]? = w.heap[B]?)
    (hbox : ∀ B r o, x.k ≠ .r r → L B = some (.box r o) → L' B = some (.box r o) ∧
      ∀ cur e fz, w.heap[B]? = some (.cells cur e fz) → ∃ cur' : Array Value, w'.heap[B]? = some (.cells cur' e fz) ∧ cur'.size = cur.size ∧ ∀ c, x.k ≠ .b r c → cur'[o + c]? = cur[o + c]?)
    (hx : NewOk nm S.E (S.wr x).γ a' w' L' x.k x.v)
    (hd : Dom w' L') (hri : RowInj L') (hbi : BoxInj L') : Rel nm N (S.wr x) a' w' L' := by
  refine ⟨hsz.trans h.size, hdf, ?_, ?_, ?_, ?_, ?_, hd, hri, hbi⟩
  · intro i
    rw [St.E_wr]
    by_cases hk : x.k = .s i
    · simp only [hk, if_true]
      rw [hk] at hx
      exact hx
    · simp only [hk, if_false]
      rw [htm i hk]
      refine (h.slot i).step hs ?_
      intro B q o hq hL
      have := hown B q o (by rw [hq]; exact fun e => hk e.symm) (by rw [hq]; rfl) hL
      rwa [← hq, Place.at_self]
  · intro r c y hy hyd
    have hkr : x.k ≠ .r r := by intro e; rw [e] at hx; exact hx
    rw [St.E_wr] at hy
    by_cases hk : x.k = .b r c
    · simp only [hk, if_true] at hy
      rw [hk] at hx
      obtain ⟨y', h1, h2⟩ := hx
      rw [hy] at h1
      simp only [V.one.injEq] at h1
      subst h1
      exact (h2 hyd).2
    · simp only [hk, if_false] at hy
      refine (h.cell r c y hy hyd).step hs ?_ ?_
      · intro B q o hq hL
        exact hown B q o (by rw [hq]; exact fun e => hk e.symm) (by rw [hq]; rfl) hL
      · intro B o hL
        obtain ⟨h1, h2⟩ := hbox B r o hkr hL
        refine ⟨h1, fun cur e fz hB => ?_⟩
        obtain ⟨cur', h3, h4, h5⟩ := h2 cur e fz hB
        exact ⟨cur', h3, h4, h5 c hk⟩
  · intro r c
    rw [St.E_wr]
    by_cases hk : x.k = .b r c
    · simp only [hk, if_true]
      rw [hk] at hx
      obtain ⟨y, h1, _⟩ := hx
      exact ⟨y, h1⟩
    · simp only [hk, if_false]; exact h.bone r c
  · intro r c hc
    have hkr : x.k ≠ .r r := by intro e; rw [e] at hx; exact hx
    rw [St.E_wr] at hc ⊢
    simp only [hkr, if_false] at hc
    by_cases hk : x.k = .b r c
    · simp only [hk, if_true]
      rw [hk] at hx
      obtain ⟨y, h1, h2⟩ := hx
      by_cases hyd : y = .dead
      · rw [h1, hyd]
      · have := (h2 hyd).1; omega
    · simp only [hk, if_false]; exact h.bound r c hc
  · intro r hg hr
    have hkr : x.k ≠ .r r := by intro e; rw [e] at hx; exact hx
    rw [St.E_wr] at hr ⊢
    simp only [hkr, if_false] at hr ⊢
    obtain ⟨B, o, cur, e, fz, h1, h2, h3, h4⟩ := h.room r hg hr
    obtain ⟨g1, g2⟩ := hbox B r o hkr h1
    obtain ⟨cur', g3, g4, _⟩ := g2 _ _ _ h2
    exact ⟨B, o, cur', e, fz, g1, g3, by rw [g4]; exact h3, by rw [g4]; exact h4⟩
end Go.Abs
