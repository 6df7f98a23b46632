/- An evaluator of the model's code over plain data, and that what it answers the model does: part 2 of 11. -/
import Derived.Test.YtaifamiafiefkaaGreatDoorAbs0
set_option linter.unusedVariables false
set_option linter.unusedSimpArgs false
namespace Go.Abs
section
def ViewAt (w : World) (L : LabF) (pl : Place) (sz off len : Nat) (v : Value) : Prop :=
  (len = 0 ∧ ∃ a, v = .slice (some a) 0 0) ∨
  ∃ B o cap cur e fz, v = .slice (some ⟨B, o + off * sz, none⟩) len cap ∧ 0 < sz ∧ L B = some (.row pl o) ∧ w.heap[B]? = some (.cells cur e fz) ∧
    unfroz cur.size fz ∧ len ≤ cap ∧ o + off * sz + cap * sz ≤ cur.size ∧ (off = 0 → len = 0 → e = 5)
def AppAt (w : World) (L : LabF) (pl : Place) (sz : Nat) (rows : List (List D)) (t : Place) (v : Value) : Prop :=
  (rows = [] ∧ ∃ a, v = .slice (some a) 0 0) ∨
  ∃ B o cap cur e fz n0, ∃ val : Nat → Nat → Value, v = .slice (some ⟨B, o, none⟩) rows.length cap ∧ 0 < sz ∧ (L B = some (.row pl o) ∨ L B = some (.row t o)) ∧
    w.heap[B]? = some (.cells cur e fz) ∧ unfroz cur.size fz ∧ (∀ r ∈ rows, r.length = sz) ∧ rows.length ≤ cap ∧ o + cap * sz ≤ cur.size ∧
    (∀ i c x, cellOf rows i c = some x → cur[o + i * sz + c]? = some (val i c)) ∧
    (∀ i c x, cellOf rows i c = some x → RepD w L ((if i < n0 then pl else t).sub i c) x (val i c)) ∧ U8At rows e
mutual
def C.clean : C → Bool
  | .d (.sl .own _ _) => false
  | .appd .. => false
  | .bld _ => false
  | .mp _ => false
  | .fn _ a b => cleanL a && cleanL b
  | _ => true
def cleanL : List C → Bool
  | [] => true
  | c :: t => c.clean && cleanL t
end
mutual
def V.clean : V → Bool
  | .one c => c.clean
  | .agg cs => cleanL cs
  | .tup vs => cleanVs vs
def cleanVs : List V → Bool
  | [] => true
  | v :: t => v.clean && cleanVs t
end
theorem cleanL_get : ∀ {l : List C} {i : Nat} {c : C}, cleanL l = true → l[i]? = some c → c.clean = true
  | [], _, _, _, h => by simp at h
  | x :: t, 0, c, h, hc => by simp only [cleanL, Bool.and_eq_true] at h; simp at hc; subst hc; exact h.1
  | x :: t, i + 1, c, h, hc => by simp only [cleanL, Bool.and_eq_true] at h; exact cleanL_get h.2 (by simpa using hc)
theorem cleanVs_get : ∀ {l : List V} {i : Nat} {c : V}, cleanVs l = true → l[i]? = some c → c.clean = true
  | [], _, _, _, h => by simp at h
  | x :: t, 0, c, h, hc => by simp only [cleanVs, Bool.and_eq_true] at h; simp at hc; subst hc; exact h.1
  | x :: t, i + 1, c, h, hc => by simp only [cleanVs, Bool.and_eq_true] at h; exact cleanVs_get h.2 (by simpa using hc)
def MapRows (x : D) (es : Array MapEntry) : Prop :=
  ∃ (b : Bool) (rows : List (List D)) (l : List (List UInt8 × Bool)), x = .sl (.im b) 2 rows ∧ rows = l.map (fun p => [.str p.1, .bool p.2]) ∧ es.toList.map (fun e => (e.key, e.val)) = l.map (fun p => (Value.string ⟨p.1.toArray⟩, Value.bool p.2))
def Key.isPl : Key → Bool
  | .s _ => true
  | .b _ _ => true
  | _ => false
def SliceLike (len : Nat) (v : Value) : Prop := ∃ b c, v = .slice b len c ∧ len ≤ c ∧ b.isSome = true
section
variable (nm : FuncId → Option Nat) (w : World) (L : LabF) (γ : Key → Nat)
inductive RepC : Key → Nat → C → Value → Prop where
  | d {k j x v} (h : RepD w L ⟨k, j, []⟩ x v) : RepC k j (.d x) v
  | ptr {k j r g c v} (hv : ∃ ad, v = .pointer (some ad)) (hg : g ≤ γ (.r r))
      (h : g = γ (.r r) → ∃ B o, L B = some (.box r o) ∧ v = .pointer (some ⟨B, o + c, none⟩)) : RepC k j (.ptr r g c) v
  | eptr {k j pl g sz i c v} (hv : ∃ ad, v = .pointer (some ad)) (hh : pl.k.isPl = true) (hg : g ≤ γ pl.k)
      (h : g = γ pl.k → ∃ B o, L B = some (.row pl o) ∧ v = .pointer (some ⟨B, o + i * sz + c, none⟩)) : RepC k j (.eptr pl g sz i c) v
  | pp {k j cells B o cur e fz} (hL : L B = some .imm) (hB : w.heap[B]? = some (.cells cur e fz))
      (h : ∀ q x, cells[q]? = some x → ∃ u, cur[o + q]? = some u ∧ RepP w L x u) : RepC k j (.pp cells) (.pointer (some ⟨B, o, none⟩))
  | view {k j pl g sz off len v} (hv : SliceLike len v) (hh : pl.k.isPl = true) (hg : g ≤ γ pl.k) (h : g = γ pl.k → ViewAt w L pl sz off len v) : RepC k j (.view pl g sz off len) v
  | appd {k j pl g a sz rows v} (hv : v.oneCell' = true) (hh : pl.k.isPl = true) (hg : g ≤ γ pl.k) (ha : a ≤ γ (.a pl.k))
      (h : g = γ pl.k → a = γ (.a pl.k) → AppAt w L pl sz rows ⟨k, j, []⟩ v) : RepC k j (.appd pl g a sz rows) v
  | fn {k j f first cap fid} {fs cs : Array Value} (hft : f < fnsTag) (hf : nm fid = some f) (h1 : first.length = fs.size) (h2 : cap.length = cs.size) (hcl : cleanL first = true ∧ cleanL cap = true)
      (h3 : ∀ (i : Nat) x u, first[i]? = some x → fs[i]? = some u → RepC k j x u)
      (h4 : ∀ (i : Nat) x u, cap[i]? = some x → cs[i]? = some u → RepC k j x u) : RepC k j (.fn f first cap) (.func (.func fid) fs cs)
  | fns {k j f l v B o cap cur e fz} (val : Nat → Value) (hf : (f = fnsTag ∧ v = .slice (some ⟨B, o, none⟩) l.length cap ∧ l.length ≤ cap) ∨ (f = fnsTag + 1 ∧ v = .pointer (some ⟨B, o, none⟩)))
      (hL : L B = some .imm) (hB : w.heap[B]? = some (.cells cur e fz)) (hcl : cleanL l = true) (hv : ∀ i, i < l.length → cur[o + i]? = some (val i))
      (h : ∀ (i : Nat) x, l[i]? = some x → RepC k j x (val i)) : RepC k j (.fn f [] l) v
  | nilp {k j} : RepC k j .nilp (.pointer none)
  | nilf {k j} : RepC k j .nilf .nilFunc
  | nili {k j} : RepC k j .nili .nilIface
  | ifc {k j t u} : RepC k j .ifc (.iface t u)
  | bld {k j t v} (hk : ∃ r c, k = .b r c) (hv : v.oneCell' = true) : RepC k j (.bld t) v
  | mp {k j x v} (h : ∃ B es clock, v = .map (some B) ∧ L B = some (.row ⟨k, j, []⟩ 0) ∧ w.heap[B]? = some (.map es clock) ∧ MapRows x es) : RepC k j (.mp x) v
  | mref {k j i g v} (hv : ∃ B, v = .map (some B)) (hg : g ≤ γ (.b (.g i) 0)) (h : g = γ (.b (.g i) 0) → ∃ B, L B = some (.row ⟨.b (.g i) 0, 0, []⟩ 0) ∧ v = .map (some B)) : RepC k j (.mref i g) v
  | dead {k j v} : RepC k j .dead v
inductive RepV : Key → V → Value → Prop where
  | one {k c v} (h : RepC nm w L γ k 0 c v) : RepV k (.one c) v
  | agg {k cs} {vs : Array Value} (hl : cs.length = vs.size) (h : ∀ (j : Nat) c u, cs[j]? = some c → vs[j]? = some u → RepC nm w L γ k j c u) : RepV k (.agg cs) (.agg vs)
  | tup {k vs} {us : Array Value} (hl : vs.length = us.size) (hcl : cleanVs vs = true) (h : ∀ (i : Nat) x u, vs[i]? = some x → us[i]? = some u → RepV k x u) : RepV k (.tup vs) (.tuple us)
end
theorem RepC.fns_inv {nm : FuncId → Option Nat} {w : World} {L : LabF} {γ : Key → Nat} {k : Key} {j tag : Nat} {l : List C} {v : Value} (ht : fnsTag ≤ tag) (h : RepC nm w L γ k j (.fn tag [] l) v) :
    ∃ B o cap cur e fz, ∃ val : Nat → Value, ((tag = fnsTag ∧ v = .slice (some ⟨B, o, none⟩) l.length cap ∧ l.length ≤ cap) ∨ (tag = fnsTag + 1 ∧ v = .pointer (some ⟨B, o, none⟩))) ∧
      L B = some .imm ∧ w.heap[B]? = some (.cells cur e fz) ∧ cleanL l = true ∧ (∀ i, i < l.length → cur[o + i]? = some (val i)) ∧ ∀ (i : Nat) x, l[i]? = some x → RepC nm w L γ k j x (val i) := by
  cases h with
  | fn hft => exact absurd hft (by omega)
  | fns val hf hL hB hcl hv h => exact ⟨_, _, _, _, _, _, val, hf, hL, hB, hcl, hv, h⟩
theorem RepC.oneCell {nm : FuncId → Option Nat} {w : World} {L : LabF} {γ : Key → Nat} {k : Key} {j : Nat} {c : C} {v : Value} (h : RepC nm w L γ k j c v) (hc : c ≠ .dead) : v.oneCell' = true := by
  cases h with
  | d h => exact h.oneCell
  | ptr hv => obtain ⟨ad, rfl⟩ := hv; rfl
  | eptr hv => obtain ⟨ad, rfl⟩ := hv; rfl
  | pp => rfl
  | view hv => obtain ⟨b, c, rfl, _⟩ := hv; rfl
  | appd hv => exact hv
  | fn => rfl
  | fns val hf => rcases hf with ⟨_, rfl, _⟩ | ⟨_, rfl⟩ <;> rfl
  | nilp => rfl
  | nilf => rfl
  | nili => rfl
  | ifc => rfl
  | bld hk hv => exact hv
  | mp h => obtain ⟨B, es, clock, rfl, _⟩ := h; rfl
  | mref hv => obtain ⟨B, rfl⟩ := hv; rfl
  | dead => exact absurd rfl hc
structure Step (w w' : World) (L L' : LabF) (γ γ' : Key → Nat) : Prop where
  imm : ImmKept w w' L L'
  cnt : ∀ k, γ k ≤ γ' k
  view : ∀ B q o, q.k.isPl = true → γ' q.k = γ q.k → L B = some (.row q o) → L' B = some (.row q o) ∧
    ∀ cur e fz, w.heap[B]? = some (.cells cur e fz) → ∃ cur' : Array Value, w'.heap[B]? = some (.cells cur' e fz) ∧ cur'.size = cur.size
  app : ∀ B q o, q.k.isPl = true → γ' q.k = γ q.k → γ' (.a q.k) = γ (.a q.k) → L B = some (.row q o) → w'.heap[B]? = w.heap[B]?
  box : ∀ B r o, γ' (.r r) = γ (.r r) → L B = some (.box r o) → L' B = some (.box r o)
theorem ViewAt.step {w w' : World} {L L' : LabF} {γ γ' : Key → Nat} (hs : Step w w' L L' γ γ') {pl : Place} {sz off len : Nat} {v : Value}
    (hh : pl.k.isPl = true) (hk : γ' pl.k = γ pl.k) (h : ViewAt w L pl sz off len v) : ViewAt w' L' pl sz off len v := by
  rcases h with h | ⟨B, o, cap, cur, e, fz, rfl, hsz, hL, hB, hfz, hc, hr, h8⟩
  · exact .inl h
  · obtain ⟨h1, h2⟩ := hs.view B pl o hh hk hL
    obtain ⟨cur', h3, h4⟩ := h2 _ _ _ hB
    exact .inr ⟨B, o, cap, cur', e, fz, rfl, hsz, h1, h3, by rw [h4]; exact hfz, hc, by rw [h4]; exact hr, h8⟩
def Place.at (q : Place) (k : Key) (j : Nat) : Place := ⟨k, j, q.p⟩
theorem AppAt.step {w w' : World} {L L' : LabF} {γ γ' : Key → Nat} (hs : Step w w' L L' γ γ') {pl : Place} {k k' : Key} {j j' : Nat} {sz : Nat} {rows : List (List D)} {v : Value}
    (hh : pl.k.isPl = true) (hk : γ' pl.k = γ pl.k) (ha : γ' (.a pl.k) = γ (.a pl.k))
    (ht : ∀ B q o, q.k = k → q.j = j → L B = some (.row q o) → L' B = some (.row (q.at k' j') o) ∧ w'.heap[B]? = w.heap[B]?)
    (h : AppAt w L pl sz rows ⟨k, j, []⟩ v) : AppAt w' L' pl sz rows ⟨k', j', []⟩ v := by
  rcases h with h | ⟨B, o, cap, cur, e, fz, n0, val, rfl, hsz, hL, hB, hfz, hlen, hc, hr, hv, hd, hu8⟩
  · exact .inl h
  · have hd' : ∀ i c x, cellOf rows i c = some x → RepD w' L' ((if i < n0 then pl else ⟨k', j', []⟩).sub i c) x (val i c) := by
      intro i c x hx
      have h0 := hd i c x hx
      by_cases hi : i < n0
      · rw [if_pos hi] at h0 ⊢
        refine RepD.move id (fun q => q.k = pl.k) (fun _ _ _ h => h) (fun _ _ _ _ => rfl) hs.imm ?_ h0 rfl
        intro B q o hq hL
        have hq1 : γ' q.k = γ q.k := by rw [hq]; exact hk
        have hq2 : γ' (.a q.k) = γ (.a q.k) := by rw [hq]; exact ha
        have hq0 : q.k.isPl = true := by rw [hq]; exact hh
        exact ⟨(hs.view B q o hq0 hq1 hL).1, hs.app B q o hq0 hq1 hq2 hL⟩
      · rw [if_neg hi] at h0 ⊢
        exact RepD.move (fun q => q.at k' j') (fun q => q.k = k ∧ q.j = j) (fun _ _ _ h => h) (fun _ _ _ _ => rfl) hs.imm (fun B q o hq hL => ht B q o hq.1 hq.2 hL) h0 ⟨rfl, rfl⟩
    rcases hL with hL | hL
    · exact .inr ⟨B, o, cap, cur, e, fz, n0, val, rfl, hsz, .inl (hs.view B pl o hh hk hL).1, (hs.app B pl o hh hk ha hL).trans hB, hfz, hlen, hc, hr, hv, hd', hu8⟩
    · have := ht B _ o rfl rfl hL
      exact .inr ⟨B, o, cap, cur, e, fz, n0, val, rfl, hsz, .inr this.1, this.2.trans hB, hfz, hlen, hc, hr, hv, hd', hu8⟩
theorem RepC.step {nm : FuncId → Option Nat} {w w' : World} {L L' : LabF} {γ γ' : Key → Nat} (hs : Step w w' L L' γ γ') {k k' : Key} {j j' : Nat}
    (hown : ∀ B q o, q.k = k → q.j = j → L B = some (.row q o) → L' B = some (.row (q.at k' j') o) ∧ w'.heap[B]? = w.heap[B]?)
    {c : C} {v : Value} (h : RepC nm w L γ k j c v) (hkk : (∃ r c, k = .b r c) → ∃ r c, k' = .b r c := by first | exact fun h => h | exact fun _ => ⟨_, _, rfl⟩ | (rintro ⟨r, c, h⟩; cases h; done)) : RepC nm w' L' γ' k' j' c v := by
  induction h with
  | d h =>
    refine .d ?_
    exact RepD.move (fun q => q.at k' j') (fun q => q.k = _ ∧ q.j = _) (fun _ _ _ h => h) (fun _ _ _ _ => rfl) hs.imm (fun B q o hq hL => hown B q o hq.1 hq.2 hL) h ⟨rfl, rfl⟩
  | @ptr r g c v hv hg h =>
    refine .ptr hv (Nat.le_trans hg (hs.cnt _)) ?_
    intro he
    have : γ' (.r r) = γ (.r r) := Nat.le_antisymm (he ▸ hg) (hs.cnt _)
    obtain ⟨B, o, h1, h2⟩ := h (he.trans this)
    exact ⟨B, o, hs.box B r o this h1, h2⟩
  | @eptr pl g sz i c v hv hh hg h =>
    refine .eptr hv hh (Nat.le_trans hg (hs.cnt _)) ?_
    intro he
    have : γ' pl.k = γ pl.k := Nat.le_antisymm (he ▸ hg) (hs.cnt _)
    obtain ⟨B, o, h1, h2⟩ := h (he.trans this)
    exact ⟨B, o, (hs.view B pl o hh this h1).1, h2⟩
  | pp hL hB h =>
    refine .pp (hs.imm _ hL).1 ((hs.imm _ hL).2.trans hB) ?_
    intro q x hx
    obtain ⟨u, h1, h2⟩ := h q x hx
    exact ⟨u, h1, h2.mono hs.imm⟩
  | @view pl g sz off len v hv hh hg h =>
    refine .view hv hh (Nat.le_trans hg (hs.cnt _)) ?_
    intro he
    have : γ' pl.k = γ pl.k := Nat.le_antisymm (he ▸ hg) (hs.cnt _)
    exact (h (he.trans this)).step hs hh this
  | @appd pl g a sz rows v hv hh hg ha h =>
    refine .appd hv hh (Nat.le_trans hg (hs.cnt _)) (Nat.le_trans ha (hs.cnt _)) ?_
    intro he hae
    have h1 : γ' pl.k = γ pl.k := Nat.le_antisymm (he ▸ hg) (hs.cnt _)
    have h2 : γ' (.a pl.k) = γ (.a pl.k) := Nat.le_antisymm (hae ▸ ha) (hs.cnt _)
    exact (h (he.trans h1) (hae.trans h2)).step hs hh h1 h2 hown
  | fn hft hf h1 h2 hcl h3 h4 ih3 ih4 => exact .fn hft hf h1 h2 hcl ih3 ih4
  | fns val hf hL hB hcl hv h ih => exact .fns val hf (hs.imm _ hL).1 ((hs.imm _ hL).2.trans hB) hcl hv ih
  | nilp => exact .nilp
  | nilf => exact .nilf
  | nili => exact .nili
  | ifc => exact .ifc
  | bld hk hv => exact .bld (hkk hk) hv
  | mp h =>
    obtain ⟨B, es, clock, rfl, h1, h2, h3⟩ := h
    obtain ⟨g1, g2⟩ := hown B _ 0 rfl rfl h1
    exact .mp ⟨B, es, clock, rfl, g1, g2.trans h2, h3⟩
  | @mref i g v hv hg h =>
    refine .mref hv (Nat.le_trans hg (hs.cnt _)) ?_
    intro he
    have : γ' (.b (.g i) 0) = γ (.b (.g i) 0) := Nat.le_antisymm (he ▸ hg) (hs.cnt _)
    obtain ⟨B, h1, h2⟩ := h (he.trans this)
    exact ⟨B, (hs.view B _ 0 rfl this h1).1, h2⟩
  | dead => exact .dead
theorem RepV.step {nm : FuncId → Option Nat} {w w' : World} {L L' : LabF} {γ γ' : Key → Nat} (hs : Step w w' L L' γ γ') {k k' : Key}
    (hown : ∀ B q o, q.k = k → L B = some (.row q o) → L' B = some (.row (q.at k' q.j) o) ∧ w'.heap[B]? = w.heap[B]?)
    {x : V} {v : Value} (h : RepV nm w L γ k x v) (hkk : (∃ r c, k = .b r c) → ∃ r c, k' = .b r c := by first | exact fun h => h | exact fun _ => ⟨_, _, rfl⟩ | (rintro ⟨r, c, h⟩; cases h; done)) : RepV nm w' L' γ' k' x v := by
  induction h with
  | one h => exact .one (h.step hs (fun B q o h1 h2 hL => by have := hown B q o h1 hL; rwa [h2] at this) hkk)
  | agg hl h => exact .agg hl (fun j c u hc hu => (h j c u hc hu).step hs (fun B q o h1 h2 hL => by have := hown B q o h1 hL; rwa [h2] at this) hkk)
  | tup hl hcl h ih => exact .tup hl hcl ih
theorem RepC.any {nm : FuncId → Option Nat} {w : World} {L : LabF} {γ : Key → Nat} {k : Key} {j : Nat} {c : C} {v : Value} (h : RepC nm w L γ k j c v)
    (hc : c.clean = true) (k' : Key) (j' : Nat) : RepC nm w L γ k' j' c v := by
  induction h with
  | @d x v h =>
    cases h with
    | plain h => exact .d (.plain h)
    | ownE => simp [C.clean] at hc
    | own => simp [C.clean] at hc
  | ptr hv hg h => exact .ptr hv hg h
  | eptr hv hh hg h => exact .eptr hv hh hg h
  | pp hL hB h => exact .pp hL hB h
  | view hv hh hg h => exact .view hv hh hg h
  | appd => simp [C.clean] at hc
  | fn hft hf h1 h2 hcl h3 h4 ih3 ih4 =>
    exact .fn hft hf h1 h2 hcl (fun i x u hx hu => ih3 i x u hx hu (cleanL_get hcl.1 hx)) (fun i x u hx hu => ih4 i x u hx hu (cleanL_get hcl.2 hx))
  | fns val hf hL hB hcl hv h ih => exact .fns val hf hL hB hcl hv (fun i x hx => ih i x hx (cleanL_get hcl hx))
  | nilp => exact .nilp
  | nilf => exact .nilf
  | nili => exact .nili
  | ifc => exact .ifc
  | bld => simp [C.clean] at hc
  | mp => simp [C.clean] at hc
  | mref hv hg h => exact .mref hv hg h
  | dead => exact .dead
theorem RepC.clean_of {nm : FuncId → Option Nat} {w : World} {L : LabF} {γ : Key → Nat} {k : Key} {j : Nat} {c : C} {v : Value} (h : RepC nm w L γ k j c v)
    (hc : c.own = false) : c.clean = true := by
  cases h with
  | @d x v h =>
    cases x with
    | sl t sz rows => cases t <;> simp_all [C.own, C.clean]
    | _ => rfl
  | appd => simp [C.own] at hc
  | bld => simp [C.own] at hc
  | mp => simp [C.own] at hc
  | fn hft hf h1 h2 hcl h3 h4 => simp [C.clean, hcl.1, hcl.2]
  | fns val hf hL hB hcl hv h => simp [C.clean, hcl, cleanL]
  | _ => rfl
theorem RepV.any {nm : FuncId → Option Nat} {w : World} {L : LabF} {γ : Key → Nat} {k : Key} {x : V} {v : Value} (h : RepV nm w L γ k x v)
    (hc : x.clean = true) (k' : Key) : RepV nm w L γ k' x v := by
  induction h with
  | one h => exact .one (h.any hc _ _)
  | agg hl h => exact .agg hl (fun j c u h1 h2 => (h j c u h1 h2).any (cleanL_get hc h1) _ _)
  | tup hl hcl h ih => exact .tup hl hcl (fun i x u h1 h2 => ih i x u h1 h2 (cleanVs_get hcl h1))
def Dom (w : World) (L : LabF) : Prop := ∀ B l, L B = some l → B < w.heap.size
theorem heap_lt {w w' : World} {B : Nat} (h : B < w.heap.size) (he : w'.heap[B]? = w.heap[B]?) : B < w'.heap.size := by
  rw [Array.getElem?_eq_getElem h] at he
  exact (Array.getElem?_eq_some_iff.1 he).1
def RowInj (L : LabF) : Prop := ∀ B B' pl o o', L B = some (.row pl o) → L B' = some (.row pl o') → B = B'
def BoxInj (L : LabF) : Prop := ∀ B B' r o o', L B = some (.box r o) → L B' = some (.box r o') → B = B'
def BldOk (x : C) (B o c : Nat) (e : TypeId) (n : Nat) (v : Value) : Prop :=
  match x with
  | .bld t => o = 0 ∧ c = 0 ∧ e = t ∧ n = 2 ∧ (v = .pointer none ∨ v = .pointer (some ⟨B, 0, none⟩))
  | _ => True
theorem BldOk.of {x : C} (h : ∀ t, x ≠ .bld t) {B o c : Nat} {e : TypeId} {n : Nat} {v : Value} : BldOk x B o c e n v := by
  cases x <;> first | trivial | exact absurd rfl (h _)
def CellAt (nm : FuncId → Option Nat) (w : World) (L : LabF) (γ : Key → Nat) (r : Root) (c : Nat) (x : C) : Prop :=
  match r with
  | .g _ => ∃ v, RepC nm w L γ (.b r c) 0 x v
  | _ => ∃ B o cur e fz v, L B = some (.box r o) ∧ w.heap[B]? = some (.cells cur e fz) ∧ unfroz cur.size fz ∧ cur[o + c]? = some v ∧ RepC nm w L γ (.b r c) 0 x v ∧ BldOk x B o c e cur.size v
structure RelO (nm : FuncId → Option Nat) (N : Nat) (E : Key → V) (γ : Key → Nat) (a : Act) (w : World) (L : LabF) : Prop where
  size : a.tmps.size = N
  defers : a.defers = []
  slot : ∀ i, RepV nm w L γ (.s i) (E (.s i)) (a.tmps.getD i undef)
  cell : ∀ r c x, E (.b r c) = .one x → x ≠ .dead → CellAt nm w L γ r c x
  bone : ∀ r c, ∃ y, E (.b r c) = .one y
  bound : ∀ r c, boxN (E (.r r)) ≤ c → E (.b r c) = .one .dead
  room : ∀ r, r.isG = false → 0 < boxN (E (.r r)) → ∃ B o cur e fz, L B = some (.box r o) ∧ w.heap[B]? = some (.cells cur e fz) ∧ unfroz cur.size fz ∧ o + boxN (E (.r r)) ≤ cur.size
  dom : Dom w L
  rowInj : RowInj L
  boxInj : BoxInj L
def St.E (S : St) (k : Key) : V := (S.get k).v
def St.γ (S : St) (k : Key) : Nat := (S.get k).g
def Rel (nm : FuncId → Option Nat) (N : Nat) (S : St) (a : Act) (w : World) (L : LabF) : Prop := RelO nm N S.E S.γ a w L
structure Mono (w w' : World) (L L' : LabF) : Prop where
  os : w'.os = w.os
  tape : w'.tape = w.tape
  output : w'.output = w.output
  size : w.heap.size ≤ w'.heap.size
  imm : ImmKept w w' L L'
  none : ∀ B, B < w.heap.size → L B = none → L' B = none ∧ w'.heap[B]? = w.heap[B]?
  ebox : ∀ B i o, L B = some (.box (.e i) o) → L' B = some (.box (.e i) o)
theorem Mono.refl (w : World) (L : LabF) : Mono w w L L := ⟨rfl, rfl, rfl, Nat.le_refl _, fun _ h => ⟨h, rfl⟩, fun _ _ h => ⟨h, rfl⟩, fun _ _ _ h => h⟩
theorem Mono.trans {w1 w2 w3 : World} {L1 L2 L3 : LabF} (h : Mono w1 w2 L1 L2) (k : Mono w2 w3 L2 L3) : Mono w1 w3 L1 L3 :=
  ⟨k.os.trans h.os, k.tape.trans h.tape, k.output.trans h.output, Nat.le_trans h.size k.size,
    fun B hB => ⟨(k.imm B (h.imm B hB).1).1, (k.imm B (h.imm B hB).1).2.trans (h.imm B hB).2⟩,
    fun B hlt hB => ⟨(k.none B (Nat.lt_of_lt_of_le hlt h.size) (h.none B hlt hB).1).1, (k.none B (Nat.lt_of_lt_of_le hlt h.size) (h.none B hlt hB).1).2.trans (h.none B hlt hB).2⟩, fun B i o hB => k.ebox B i o (h.ebox B i o hB)⟩
theorem St.get_wr (S : St) (x : Wr) (k : Key) : (S.wr x).get k = if x.k = k then ⟨x.v, if x.keep then (S.get x.k).g else (S.get x.k).g + 1⟩ else S.get k := by
  unfold St.wr; rw [St.get_put]
theorem St.E_wr (S : St) (x : Wr) (k : Key) : (S.wr x).E k = if x.k = k then x.v else S.E k := by
  unfold St.E; rw [St.get_wr]; split <;> rfl
theorem St.γ_wr (S : St) (x : Wr) (k : Key) : (S.wr x).γ k = if x.k = k then (if x.keep then S.γ k else S.γ k + 1) else S.γ k := by
  unfold St.γ; rw [St.get_wr]
  by_cases h : x.k = k
  · subst h; simp only [if_true]
  · simp [h]
def NewOk (nm : FuncId → Option Nat) (E : Key → V) (γ : Key → Nat) (a : Act) (w : World) (L : LabF) (k : Key) (v : V) : Prop :=
  match k with
  | .s i => RepV nm w L γ (.s i) v (a.tmps.getD i undef)
  | .b r c => ∃ y, v = .one y ∧ (y ≠ .dead → c < boxN (E (.r r)) ∧ CellAt nm w L γ r c y)
  | .r _ => False
  | _ => True
theorem RepC.nbld {nm : FuncId → Option Nat} {w : World} {L : LabF} {γ : Key → Nat} {m j : Nat} {x : C} {v : Value} (h : RepC nm w L γ (.h m) j x v) : ∀ t, x ≠ .bld t := by
  rintro t rfl
  cases h with
  | bld hk => obtain ⟨r, c, h⟩ := hk; cases h
theorem CellAt.step {nm : FuncId → Option Nat} {w w' : World} {L L' : LabF} {γ γ' : Key → Nat} (hs : Step w w' L L' γ γ') {r : Root} {c : Nat} {x : C}
    (hown : ∀ B q o, q.k = .b r c → L B = some (.row q o) → L' B = some (.row q o) ∧ w'.heap[B]? = w.heap[B]?)
    (hbox : ∀ B o, L B = some (.box r o) → L' B = some (.box r o) ∧
      ∀ cur e fz, w.heap[B]? = some (.cells cur e fz) → ∃ cur' : Array Value, w'.heap[B]? = some (.cells cur' e fz) ∧ cur'.size = cur.size ∧ cur'[o + c]? = cur[o + c]?)
    (h : CellAt nm w L γ r c x) : CellAt nm w' L' γ' r c x := by
  have hc : ∀ v, RepC nm w L γ (.b r c) 0 x v → RepC nm w' L' γ' (.b r c) 0 x v := fun v hv =>
    hv.step hs (fun B q o h1 h2 hL => by
      have := hown B q o h1 hL
      have hq : q.at (.b r c) 0 = q := by cases q; simp only [Place.at] at *; subst h1; subst h2; rfl
      rw [hq]; exact this)
  cases r with
  | g i => obtain ⟨v, hv⟩ := h; exact ⟨v, hc v hv⟩
  | e i =>
    obtain ⟨B, o, cur, e, fz, v, h1, h2, h3, h4, h5, h6⟩ := h
    obtain ⟨g1, g2⟩ := hbox B o h1
    obtain ⟨cur', g3, g4, g5⟩ := g2 _ _ _ h2
    exact ⟨B, o, cur', e, fz, v, g1, g3, by rw [g4]; exact h3, g5.trans h4, hc v h5, by rw [g4]; exact h6⟩
  | l i =>
    obtain ⟨B, o, cur, e, fz, v, h1, h2, h3, h4, h5, h6⟩ := h
    obtain ⟨g1, g2⟩ := hbox B o h1
    obtain ⟨cur', g3, g4, g5⟩ := g2 _ _ _ h2
    exact ⟨B, o, cur', e, fz, v, g1, g3, by rw [g4]; exact h3, g5.trans h4, hc v h5, by rw [g4]; exact h6⟩
theorem Place.at_self (q : Place) : q.at q.k q.j = q := by cases q; rfl
theorem Rel.write {nm : FuncId → Option Nat} {N : Nat} {S : St} {a a' : Act} {w w' : World} {L L' : LabF} (h : Rel nm N S a w L) (x : Wr)
    (hsz : a'.tmps.size = a.tmps.size) (hdf : a'.defers = [])
    (htm : ∀ i, x.k ≠ .s i → a'.tmps.getD i undef = a.tmps.getD i undef)
    (hs : Step w w' L L' S.γ (S.wr x).γ)
    (hown : ∀ B q o, q.k ≠ x.k → q.k.isPl = true → L B = some (.row q o) → L' B = some (.row q o) ∧ w'.heap[B]? = w.heap[B]?)
    (hbox : ∀ B r o, x.k ≠ .r r → L B = some (.box r o) → L' B = some (.box r o) ∧
      ∀ cur e fz, w.heap[B]? = some (.cells cur e fz) → ∃ cur' : Array Value, w'.heap[B]? = some (.cells cur' e fz) ∧ cur'.size = cur.size ∧ ∀ c, x.k ≠ .b r c → cur'[o + c]? = cur[o + c]?)
    (hx : NewOk nm S.E (S.wr x).γ a' w' L' x.k x.v)
    (hd : Dom w' L') (hri : RowInj L') (hbi : BoxInj L') : Rel nm N (S.wr x) a' w' L' := by
  refine ⟨hsz.trans h.size, hdf, ?_, ?_, ?_, ?_, ?_, hd, hri, hbi⟩
  · intro i
    rw [St.E_wr]
    by_cases hk : x.k = .s i
    · simp only [hk, if_true]
      rw [hk] at hx
      exact hx
    · simp only [hk, if_false]
      rw [htm i hk]
      refine (h.slot i).step hs ?_
      intro B q o hq hL
      have := hown B q o (by rw [hq]; exact fun e => hk e.symm) (by rw [hq]; rfl) hL
      rwa [← hq, Place.at_self]
  · intro r c y hy hyd
    have hkr : x.k ≠ .r r := by intro e; rw [e] at hx; exact hx
    rw [St.E_wr] at hy
    by_cases hk : x.k = .b r c
    · simp only [hk, if_true] at hy
      rw [hk] at hx
      obtain ⟨y', h1, h2⟩ := hx
      rw [hy] at h1
      simp only [V.one.injEq] at h1
      subst h1
      exact (h2 hyd).2
    · simp only [hk, if_false] at hy
      refine (h.cell r c y hy hyd).step hs ?_ ?_
      · intro B q o hq hL
        exact hown B q o (by rw [hq]; exact fun e => hk e.symm) (by rw [hq]; rfl) hL
      · intro B o hL
        obtain ⟨h1, h2⟩ := hbox B r o hkr hL
        refine ⟨h1, fun cur e fz hB => ?_⟩
        obtain ⟨cur', h3, h4, h5⟩ := h2 cur e fz hB
        exact ⟨cur', h3, h4, h5 c hk⟩
  · intro r c
    rw [St.E_wr]
    by_cases hk : x.k = .b r c
    · simp only [hk, if_true]
      rw [hk] at hx
      obtain ⟨y, h1, _⟩ := hx
      exact ⟨y, h1⟩
    · simp only [hk, if_false]; exact h.bone r c
  · intro r c hc
    have hkr : x.k ≠ .r r := by intro e; rw [e] at hx; exact hx
    rw [St.E_wr] at hc ⊢
    simp only [hkr, if_false] at hc
    by_cases hk : x.k = .b r c
    · simp only [hk, if_true]
      rw [hk] at hx
      obtain ⟨y, h1, h2⟩ := hx
      by_cases hyd : y = .dead
      · rw [h1, hyd]
      · have := (h2 hyd).1; omega
    · simp only [hk, if_false]; exact h.bound r c hc
  · intro r hg hr
    have hkr : x.k ≠ .r r := by intro e; rw [e] at hx; exact hx
    rw [St.E_wr] at hr ⊢
    simp only [hkr, if_false] at hr ⊢
    obtain ⟨B, o, cur, e, fz, h1, h2, h3, h4⟩ := h.room r hg hr
    obtain ⟨g1, g2⟩ := hbox B r o hkr h1
    obtain ⟨cur', g3, g4, _⟩ := g2 _ _ _ h2
    exact ⟨B, o, cur', e, fz, g1, g3, by rw [g4]; exact h3, by rw [g4]; exact h4⟩
end
section
theorem getWr_E (S : St) : ∀ (ws : List Wr) (k : Key), (S.wrs ws).E k = (getWr ws k).getD (S.E k)
  | [], k => rfl
  | x :: t, k => by
    simp only [St.wrs, St.E_wr, getWr]
    by_cases h : x.k = k
    · simp [h]
    · simp only [h, if_false]; exact getWr_E S t k
theorem atP_run (S : St) (ws : List Wr) (k : Key) : (atP ws k).run S = some ⟨(S.wrs ws).E k, S.γ k⟩ := by
  rw [getWr_E]
  unfold atP
  simp only [Q.run_bind, Q.run_at, Option.bind_some]
  cases getWr ws k <;> rfl
theorem St.γ_wrs_le (S : St) : ∀ (ws : List Wr) (k : Key), S.γ k ≤ (S.wrs ws).γ k
  | [], _ => Nat.le_refl _
  | x :: t, k => by
    simp only [St.wrs, St.γ_wr]
    have := γ_wrs_le S t k
    by_cases h : x.k = k
    · subst h; simp only [if_true]; split <;> omega
    · simp only [h, if_false]; exact this
theorem Step.same (w : World) (L : LabF) {γ γ' : Key → Nat} (h : ∀ k, γ k ≤ γ' k) : Step w w L L γ γ' :=
  ⟨fun _ h => ⟨h, rfl⟩, h, fun _ _ _ _ _ h => ⟨h, fun cur e fz hB => ⟨cur, hB, rfl⟩⟩, fun _ _ _ _ _ _ _ => rfl, fun _ _ _ _ h => h⟩
theorem St.γ_wr_le (S : St) (x : Wr) (k : Key) : S.γ k ≤ (S.wr x).γ k := by
  rw [St.γ_wr]; split <;> (try split) <;> omega
def bump (S : St) (k : Key) (k' : Key) : Nat := if k = k' then S.γ k' + 1 else S.γ k'
theorem γ_bump (S : St) (k : Key) (v : V) : (S.wr { k, v }).γ = bump S k := by
  funext k'
  rw [St.γ_wr]
  unfold bump
  by_cases h : k = k' <;> simp [h]
section
variable {nm : FuncId → Option Nat} {N : Nat} {S : St} {a : Act} {w : World} {L : LabF}
theorem Rel.writeL (h : Rel nm N S a w L) (x : Wr) (L' : LabF) (hk : x.keep = false)
    (himm : ∀ B, L B = some .imm → L' B = some .imm)
    (hown : ∀ B q o, q.k ≠ x.k → q.k.isPl = true → L B = some (.row q o) → L' B = some (.row q o))
    (hbox : ∀ B r o, L B = some (.box r o) → L' B = some (.box r o))
    (hx : NewOk nm S.E (S.wr x).γ a w L' x.k x.v)
    (hd : ∀ B l, L' B = some l → ∃ l0, L B = some l0) (hri : RowInj L') (hbi : ∀ B r o, L' B = some (.box r o) → L B = some (.box r o)) :
    Rel nm N (S.wr x) a w L' := by
  refine h.write x rfl h.defers (fun _ _ => rfl) ?_ (fun B q o h1 h2 h3 => ⟨hown B q o h1 h2 h3, rfl⟩) (fun B r o _ hL => ⟨hbox B r o hL, fun cur e fz hB => ⟨cur, hB, rfl, fun _ _ => rfl⟩⟩) hx ?_ hri ?_
  · refine ⟨fun B hB => ⟨himm B hB, rfl⟩, S.γ_wr_le x, ?_, fun _ _ _ _ _ _ _ => rfl, fun B r o _ hB => hbox B r o hB⟩
    intro B q o hq hγ hL
    have : q.k ≠ x.k := by
      intro e
      rw [St.γ_wr, e] at hγ
      simp [hk] at hγ
    exact ⟨hown B q o this hq hL, fun cur e fz hB => ⟨cur, hB, rfl⟩⟩
  · intro B l hB
    obtain ⟨l0, h0⟩ := hd B l hB
    exact h.dom B l0 h0
  · intro B B' r o o' h1 h2
    exact h.boxInj B B' r o o' (hbi B r o h1) (hbi B' r o' h2)
theorem Rel.kill (h : Rel nm N S a w L) (k : Key) (hk : ∀ r, k ≠ .r r) : Rel nm N (S.wr { k, v := V.dead }) a w L := by
  refine h.writeL { k, v := V.dead } L rfl (fun _ h => h) (fun _ _ _ _ _ h => h) (fun _ _ _ h => h) ?_ (fun B l h => ⟨l, h⟩) h.rowInj (fun _ _ _ h => h)
  cases k with
  | s i => exact .one .dead
  | b r c => exact ⟨.dead, rfl, fun hyd => absurd rfl hyd⟩
  | r r => exact absurd rfl (hk r)
  | h i => trivial
  | a k => trivial
def relab (f : Place → Option Place) (L : LabF) : LabF := fun B =>
  match L B with
  | some (.row q o) => (f q).map fun q' => .row q' o
  | x => x
theorem relab_row {f : Place → Option Place} {B o : Nat} {q : Place} (h : relab f L B = some (.row q o)) : ∃ q0, L B = some (.row q0 o) ∧ f q0 = some q := by
  unfold relab at h
  split at h
  · rename_i q0 o0 hL
    cases hf : f q0 with
    | none => simp [hf] at h
    | some q1 => simp only [hf, Option.map_some, Option.some.injEq, Lab.row.injEq] at h; exact ⟨q0, by rw [hL, h.2], by rw [hf, h.1]⟩
  · exact absurd h (by rename_i h1; exact h1 q o)
theorem relab_of_row {f : Place → Option Place} {B o : Nat} {q q' : Place} (h : L B = some (.row q o)) (hf : f q = some q') : relab f L B = some (.row q' o) := by
  simp [relab, h, hf]
theorem relab_imm {f : Place → Option Place} {B : Nat} : relab f L B = some .imm ↔ L B = some .imm := by
  unfold relab
  split
  · rename_i q0 o0 hL
    cases f q0 <;> simp [hL]
  · rfl
theorem relab_box {f : Place → Option Place} {B o : Nat} {r : Root} : relab f L B = some (.box r o) ↔ L B = some (.box r o) := by
  unfold relab
  split
  · rename_i q0 o0 hL
    cases f q0 <;> simp [hL]
  · rfl
theorem relab_dom {f : Place → Option Place} {B : Nat} {l : Lab} (h : relab f L B = some l) : ∃ l0, L B = some l0 := by
  unfold relab at h
  split at h
  · rename_i q0 o0 hL; exact ⟨_, hL⟩
  · exact ⟨_, h⟩
theorem relab_inj {f : Place → Option Place} (h : RowInj L) (hf : ∀ q q' t B B' o o', f q = some t → f q' = some t → L B = some (.row q o) → L B' = some (.row q' o') → q = q') : RowInj (relab f L) := by
  intro B B' pl o o' h1 h2
  obtain ⟨q, g1, g2⟩ := relab_row h1
  obtain ⟨q', g3, g4⟩ := relab_row h2
  obtain rfl := hf q q' pl B B' o o' g2 g4 g1 g3
  exact h B B' q o o' g1 g3
def NoH (L : LabF) : Prop := ∀ B q o, L B = some (.row q o) → q.k.isPl = true
def FreeH (L : LabF) (m : Nat) : Prop := ∀ B q o, L B = some (.row q o) → q.k ≠ .h m
theorem Rel.take (h : Rel nm N S a w L) (i m : Nat) (hm : FreeH L m) :
    ∃ L', Rel nm N (S.wr { k := .s i, v := V.dead }) a w L' ∧ RepV nm w L' (S.wr { k := .s i, v := V.dead }).γ (.h m) (S.E (.s i)) (a.tmps.getD i undef) ∧
      (∀ B, L B = some .imm ↔ L' B = some .imm) ∧ (∀ B q o, q.k ≠ .s i → q.k ≠ .h m → (L B = some (.row q o) ↔ L' B = some (.row q o))) ∧ (∀ B, L' B = none ↔ L B = none) ∧
      (∀ B r o, L B = some (.box r o) ↔ L' B = some (.box r o)) ∧ (∀ B q o, L' B = some (.row q o) → q.k ≠ .s i) := by
  let f : Place → Option Place := fun q => if q.k = .s i then some (q.at (.h m) q.j) else some q
  have hfs : ∀ q, ∃ t, f q = some t := fun q => by by_cases hq : q.k = .s i <;> simp [f, hq]
  have hrel : Rel nm N (S.wr { k := .s i, v := V.dead }) a w (relab f L) := by
    refine h.writeL { k := .s i, v := V.dead } (relab f L) rfl (fun B hB => relab_imm.2 hB) ?_ (fun B r o hB => relab_box.2 hB) (.one .dead) (fun B l hB => relab_dom hB) ?_ (fun B r o hB => relab_box.1 hB)
    · intro B q o hq _ hL
      exact relab_of_row hL (by simp only [f]; rw [if_neg hq])
    · refine relab_inj h.rowInj ?_
      intro q q' t B B' o o' h1 h2 hB hB'
      simp only [f] at h1 h2
      by_cases hq : q.k = .s i
      · rw [if_pos hq] at h1
        by_cases hq' : q'.k = .s i
        · rw [if_pos hq'] at h2
          rw [← h2] at h1
          simp only [Option.some.injEq, Place.at, Place.mk.injEq, true_and] at h1
          cases q; cases q'; simp_all
        · rw [if_neg hq'] at h2
          rw [← h1] at h2
          simp only [Option.some.injEq] at h2
          exact absurd (by rw [h2]; rfl) (hm B' q' o' hB')
      · rw [if_neg hq] at h1
        by_cases hq' : q'.k = .s i
        · rw [if_pos hq'] at h2
          rw [← h2] at h1
          simp only [Option.some.injEq] at h1
          exact absurd (by rw [h1]; rfl) (hm B q o hB)
        · rw [if_neg hq'] at h2
          rw [← h2] at h1
          simpa using h1
  refine ⟨relab f L, hrel, ?_, fun B => relab_imm.symm, ?_, ?_, fun B r o => relab_box.symm, ?_⟩
  · refine (h.slot i).step ?_ ?_
    · refine ⟨fun B hB => ⟨relab_imm.2 hB, rfl⟩, S.γ_wr_le _, ?_, fun _ _ _ _ _ _ _ => rfl, fun B r o _ hB => relab_box.2 hB⟩
      intro B q o hq hγ hL
      have hne : q.k ≠ .s i := by intro e; rw [St.γ_wr, e] at hγ; simp at hγ
      exact ⟨relab_of_row hL (by simp only [f]; rw [if_neg hne]), fun cur e fz hB => ⟨cur, hB, rfl⟩⟩
    · intro B q o hq hL
      exact ⟨relab_of_row hL (by simp only [f]; rw [if_pos hq]), rfl⟩
  · intro B q o h1 h2
    constructor
    · intro hL; exact relab_of_row hL (by simp only [f]; rw [if_neg h1])
    · intro hL
      obtain ⟨q0, h3, h4⟩ := relab_row hL
      simp only [f] at h4
      by_cases hq : q0.k = .s i
      · rw [if_pos hq] at h4
        simp only [Option.some.injEq] at h4
        exact absurd (by rw [← h4]; rfl) h2
      · rw [if_neg hq] at h4
        simp only [Option.some.injEq] at h4
        rw [← h4]; exact h3
  · intro B
    unfold relab
    split
    · rename_i q0 o0 hL
      obtain ⟨t, ht⟩ := hfs q0
      simp [hL, ht]
    · rfl
  · intro B q o hL
    obtain ⟨q0, h3, h4⟩ := relab_row hL
    simp only [f] at h4
    by_cases hq : q0.k = .s i
    · rw [if_pos hq] at h4
      simp only [Option.some.injEq] at h4
      rw [← h4]; simp [Place.at]
    · rw [if_neg hq] at h4
      simp only [Option.some.injEq] at h4
      rw [← h4]; exact hq
theorem Rel.slotPut (h : Rel nm N S a w L) {i m : Nat} {x : V} {v : Value} (hi : i < N) (hv : RepV nm w L S.γ (.h m) x v) :
    ∃ L', Rel nm N (S.wr { k := .s i, v := x }) (a.put (some i) v) w L' ∧ NoH L' ∧ Mono w w L L' ∧
      (∀ B q o, q.k ≠ .s i → q.k.isPl = true → L B = some (.row q o) → L' B = some (.row q o)) := by
  let f : Place → Option Place := fun q => if q.k = .s i then none else if q.k = .h m then some (q.at (.s i) q.j) else if q.k.isPl = false then none else some q
  have hrow : ∀ B q o, q.k ≠ .s i → q.k.isPl = true → L B = some (.row q o) → relab f L B = some (.row q o) := by
    intro B q o h1 h2 hL
    have h3 : q.k ≠ .h m := fun e => by rw [e] at h2; simp [Key.isPl] at h2
    exact relab_of_row hL (by simp only [f]; rw [if_neg h1, if_neg h3, if_neg (by rw [h2]; simp)])
  have hst : Step w w L (relab f L) S.γ (S.wr { k := .s i, v := x }).γ := by
    refine ⟨fun B hB => ⟨relab_imm.2 hB, rfl⟩, S.γ_wr_le _, ?_, fun _ _ _ _ _ _ _ => rfl, fun B r o _ hB => relab_box.2 hB⟩
    intro B q o hq hγ hL
    have hne : q.k ≠ .s i := by intro e; rw [St.γ_wr, e] at hγ; simp at hγ
    exact ⟨hrow B q o hne hq hL, fun cur e fz hB => ⟨cur, hB, rfl⟩⟩
  have hput : (a.put (some i) v).tmps = a.tmps.setIfInBounds i v := rfl
  refine ⟨relab f L, ?_, ?_, ?_, hrow⟩
  · refine h.write { k := .s i, v := x } (by simp [hput]) h.defers ?_ hst (fun B q o h1 h2 h3 => ⟨hrow B q o h1 h2 h3, rfl⟩) (fun B r o _ hL => ⟨relab_box.2 hL, fun cur e fz hB => ⟨cur, hB, rfl, fun _ _ => rfl⟩⟩) ?_ ?_ ?_ ?_
    · intro j hj
      rw [hput]
      have hne : i ≠ j := fun e => hj (by rw [e])
      simp [Array.getD_eq_getD_getElem?, Array.getElem?_setIfInBounds_ne hne]
    · show RepV nm w (relab f L) _ (.s i) x ((a.put (some i) v).tmps.getD i undef)
      have hg : (a.put (some i) v).tmps.getD i undef = v := by
        rw [hput]
        have : i < a.tmps.size := by rw [h.size]; exact hi
        simp [Array.getD_eq_getD_getElem?, Array.getElem?_setIfInBounds, this]
      rw [hg]
      refine hv.step hst ?_
      intro B q o hq hL
      exact ⟨relab_of_row hL (by simp only [f]; rw [if_neg (by rw [hq]; simp), if_pos hq]), rfl⟩
    · intro B l hB
      obtain ⟨l0, h0⟩ := relab_dom hB
      exact h.dom B l0 h0
    · refine relab_inj h.rowInj ?_
      intro q q' t B B' o o' h1 h2 _ _
      simp only [f] at h1 h2
      by_cases hq : q.k = .s i
      · simp [hq] at h1
      by_cases hq' : q'.k = .s i
      · simp [hq'] at h2
      rw [if_neg hq] at h1
      rw [if_neg hq'] at h2
      by_cases hm1 : q.k = .h m
      · rw [if_pos hm1] at h1
        by_cases hm2 : q'.k = .h m
        · rw [if_pos hm2] at h2
          rw [← h2] at h1
          simp only [Option.some.injEq, Place.at, Place.mk.injEq, true_and] at h1
          cases q; cases q'; simp_all
        · rw [if_neg hm2] at h2
          split at h2
          · simp at h2
          · rw [← h1] at h2; simp only [Option.some.injEq] at h2; exact absurd (by rw [h2]; rfl) hq'
      · rw [if_neg hm1] at h1
        split at h1
        · simp at h1
        · by_cases hm2 : q'.k = .h m
          · rw [if_pos hm2] at h2
            rw [← h2] at h1; simp only [Option.some.injEq] at h1; exact absurd (by rw [h1]; rfl) hq
          · rw [if_neg hm2] at h2
            split at h2
            · simp at h2
            · rw [← h2] at h1; simpa using h1
    · intro B B' r o o' h1 h2
      exact h.boxInj B B' r o o' (relab_box.1 h1) (relab_box.1 h2)
  · intro B q o hB
    obtain ⟨q0, h1, h2⟩ := relab_row hB
    simp only [f] at h2
    split at h2
    · simp at h2
    · split at h2
      · simp only [Option.some.injEq] at h2; rw [← h2]; rfl
      · split at h2
        · simp at h2
        · rename_i h3; simp only [Option.some.injEq] at h2; rw [← h2]; simpa using h3
  · refine ⟨rfl, rfl, rfl, Nat.le_refl _, fun B hB => ⟨relab_imm.2 hB, rfl⟩, ?_, fun B i o hB => relab_box.2 hB⟩
    intro B _ hB
    exact ⟨by simp [relab, hB], rfl⟩
theorem RepV.setCell {w' : World} {L' : LabF} {γ γ' : Key → Nat} {k : Key} {x : V} {v : Value} {j : Nat} {c c' : C} (h : RepV nm w L γ k x v) (hc : x.cells[j]? = some c)
    (hs : Step w w' L L' γ γ')
    (hown : ∀ B q o, q.k = k → q.j ≠ j → L B = some (.row q o) → L' B = some (.row q o) ∧ w'.heap[B]? = w.heap[B]?)
    (hj : ∀ u, RepC nm w L γ k j c u → RepC nm w' L' γ' k j c' u) : RepV nm w' L' γ' k (x.setCell j c') v := by
  cases h with
  | @one c0 _ h =>
    simp only [V.cells] at hc
    cases j with
    | zero =>
      simp only [List.getElem?_cons_zero, Option.some.injEq] at hc
      subst hc
      simp only [V.setCell, if_true]
      exact .one (hj _ h)
    | succ j => simp at hc
  | @agg cs vs hl h =>
    simp only [V.cells] at hc
    simp only [V.setCell]
    refine .agg (by simpa using hl) ?_
    intro j' c1 u h1 h2
    rw [List.getElem?_set] at h1
    by_cases hjj : j = j'
    · subst hjj
      simp only [if_true] at h1
      split at h1
      · simp only [Option.some.injEq] at h1
        subst h1
        exact hj u (h j c u hc h2)
      · simp at h1
    · simp only [hjj, if_false] at h1
      refine (h j' c1 u h1 h2).step hs ?_
      intro B q o hq1 hq2 hL
      have := hown B q o hq1 (by rw [hq2]; exact fun e => hjj e.symm) hL
      rwa [← hq1, ← hq2, Place.at_self]
  | tup => simp [V.cells] at hc
open Classical in
noncomputable def freezeL (t : Place) (L : LabF) : LabF := fun B =>
  match L B with
  | some (.row q o) => if Under t q then some .imm else some (.row q o)
  | x => x
theorem freezeL_imm {t : Place} {B : Nat} (h : L B = some .imm) : freezeL t L B = some .imm := by simp [freezeL, h]
theorem freezeL_box {t : Place} {B o : Nat} {r : Root} : freezeL t L B = some (.box r o) ↔ L B = some (.box r o) := by
  unfold freezeL
  split
  · rename_i q0 o0 hL
    rw [hL]
    split <;> simp
  · rfl
theorem freezeL_row {t q : Place} {B o : Nat} (h : L B = some (.row q o)) (hn : ¬ Under t q) : freezeL t L B = some (.row q o) := by simp [freezeL, h, hn]
theorem freezeL_under {t q : Place} {B o : Nat} (h : L B = some (.row q o)) (hn : Under t q) : freezeL t L B = some .imm := by simp [freezeL, h, hn]
theorem freezeL_row' {t q : Place} {B o : Nat} (h : freezeL t L B = some (.row q o)) : L B = some (.row q o) ∧ ¬ Under t q := by
  unfold freezeL at h
  split at h
  · rename_i q0 o0 hL
    split at h
    · simp at h
    · rename_i hn
      simp only [Option.some.injEq, Lab.row.injEq] at h
      obtain ⟨rfl, rfl⟩ := h
      exact ⟨hL, hn⟩
  · rename_i h1; exact absurd h (h1 q o)
theorem freezeL_dom {t : Place} {B : Nat} {l : Lab} (h : freezeL t L B = some l) : ∃ l0, L B = some l0 := by
  unfold freezeL at h
  split at h
  · rename_i q0 o0 hL; exact ⟨_, hL⟩
  · exact ⟨_, h⟩
theorem freezeL_none {t : Place} {B : Nat} : freezeL t L B = none ↔ L B = none := by
  unfold freezeL
  split
  · rename_i q0 o0 hL
    rw [hL]
    split <;> simp
  · rfl
theorem freezeL_inj {t : Place} (h : RowInj L) : RowInj (freezeL t L) := fun B B' pl o o' h1 h2 => h B B' pl o o' (freezeL_row' h1).1 (freezeL_row' h2).1
theorem freezeL_mono (t : Place) : Mono w w L (freezeL t L) :=
  ⟨rfl, rfl, rfl, Nat.le_refl _, fun B hB => ⟨freezeL_imm hB, rfl⟩, fun B _ hB => ⟨freezeL_none.2 hB, rfl⟩, fun B i o hB => freezeL_box.2 hB⟩
theorem Under.key {t q : Place} (h : Under t q) : q.k = t.k ∧ q.j = t.j := by obtain ⟨r, rfl⟩ := h; exact ⟨rfl, rfl⟩
theorem bump_le (S : St) (k k' : Key) : S.γ k' ≤ bump S k k' := by unfold bump; split <;> omega
theorem bump_ne {S : St} {k k' : Key} (h : bump S k k' = S.γ k') : k' ≠ k := by
  intro e; subst e; simp [bump] at h
theorem Rel.setCellL (h : Rel nm N S a w L) {k : Key} {j : Nat} {c c' : C} {L' : LabF}
    (hk : (∃ i, k = .s i) ∨ ∃ r c, k = .b r c) (hE : (S.E k).cells[j]? = some c) (hcd : c ≠ .dead)
    (himm : ∀ B, L B = some .imm → L' B = some .imm)
    (hown : ∀ B q o, q.k ≠ k → q.k.isPl = true → L B = some (.row q o) → L' B = some (.row q o))
    (hownj : ∀ B q o, q.k = k → q.j ≠ j → L B = some (.row q o) → L' B = some (.row q o))
    (hbox : ∀ B r o, L' B = some (.box r o) ↔ L B = some (.box r o))
    (hd : ∀ B l, L' B = some l → ∃ l0, L B = some l0) (hri : RowInj L')
    (hcell : ∀ u, RepC nm w L S.γ k j c u → RepC nm w L' (bump S k) k j c' u) (hcb : ∀ t, c' ≠ .bld t := by intro t h; cases h) :
    Rel nm N (S.wr { k, v := (S.E k).setCell j c' }) a w L' := by
  have hst : Step w w L L' S.γ (bump S k) := by
    refine ⟨fun B hB => ⟨himm B hB, rfl⟩, bump_le S k, ?_, fun _ _ _ _ _ _ _ => rfl, fun B r o _ hB => (hbox B r o).2 hB⟩
    intro B q o hq hγ hL
    exact ⟨hown B q o (bump_ne hγ) hq hL, fun cur e fz hB => ⟨cur, hB, rfl⟩⟩
  refine h.writeL _ _ rfl himm (fun B q o h1 h2 h3 => hown B q o h1 h2 h3) (fun B r o hB => (hbox B r o).2 hB) ?_ hd hri (fun B r o hB => (hbox B r o).1 hB)
  rw [γ_bump]
  rcases hk with ⟨i, rfl⟩ | ⟨r, cc, rfl⟩
  · exact (h.slot i).setCell hE hst (fun B q o h1 h2 hL => ⟨hownj B q o h1 h2 hL, rfl⟩) hcell
  · obtain ⟨c0, hEk⟩ := h.bone r cc
    rw [hEk] at hE
    simp only [V.cells] at hE
    cases j with
    | succ j => simp at hE
    | zero =>
      simp only [List.getElem?_cons_zero, Option.some.injEq] at hE
      subst hE
      have hlt : cc < boxN (S.E (.r r)) := by
        refine Nat.lt_of_not_le fun hle => hcd ?_
        have := h.bound r cc hle
        rw [hEk] at this
        simpa using this
      refine ⟨c', by simp [hEk, V.setCell], fun _ => ⟨hlt, ?_⟩⟩
      have hold := h.cell r cc _ hEk hcd
      cases r with
      | g i => obtain ⟨v, hv⟩ := hold; exact ⟨v, hcell v hv⟩
      | e i => obtain ⟨B, o, cur, e, fz, v, h1, h2, h3, h4, h5⟩ := hold; exact ⟨B, o, cur, e, fz, v, (hbox _ _ _).2 h1, h2, h3, h4, hcell v h5.1, .of hcb⟩
      | l i => obtain ⟨B, o, cur, e, fz, v, h1, h2, h3, h4, h5⟩ := hold; exact ⟨B, o, cur, e, fz, v, (hbox _ _ _).2 h1, h2, h3, h4, hcell v h5.1, .of hcb⟩
theorem Rel.freezeAt (h : Rel nm N S a w L) {k : Key} {j : Nat} {p : List (Nat × Nat)} {x : D} {sz : Nat} {rows : List (List D)}
    (hk : (∃ i, k = .s i) ∨ ∃ r c, k = .b r c) (hE : (S.E k).cells[j]? = some (.d x)) (hn : navD x p = some (.sl .own sz rows)) :
    Rel nm N (S.wr { k, v := (S.E k).setCell j (.d (setD x p (.sl (.im false) sz (plainRs rows)))) }) a w (freezeL ⟨k, j, p⟩ L) := by
  refine h.setCellL hk hE (by simp) (fun B hB => freezeL_imm hB) (fun B q o hq _ hL => freezeL_row hL (fun hu => hq hu.key.1)) (fun B q o _ hq hL => freezeL_row hL (fun hu => hq hu.key.2))
    (fun B r o => freezeL_box) (fun B l hB => freezeL_dom hB) (freezeL_inj h.rowInj) ?_
  intro u hu
  cases hu with
  | d hd =>
    refine .d ?_
    have hap : (⟨k, j, []⟩ : Place).app p = ⟨k, j, p⟩ := by simp [Place.app]
    refine RepD.subst p hd hn (fun B hB => ⟨freezeL_imm hB, rfl⟩) ?_ ?_ rfl
    · intro B' q o' _ h2 h3
      rw [hap] at h2
      exact freezeL_row h3 h2
    · intro u' hu'
      rw [hap] at hu' ⊢
      refine .plain ?_
      have := RepD.freeze (w' := w) (L' := freezeL ⟨k, j, p⟩ L) (Under ⟨k, j, p⟩) (fun q i c h => h.sub i c) (fun B hB => ⟨freezeL_imm hB, rfl⟩) (fun B q o hq hL => ⟨freezeL_under hL hq, rfl⟩) hu' (Under.refl _)
      simpa [plainD] using this
theorem Rel.grow (h : Rel nm N S a w L) {w' : World} {L' : LabF} (hheap : ∀ B l, L B = some l → w'.heap[B]? = w.heap[B]?) (hL : ∀ B l, L B = some l → L' B = some l)
    (hd : Dom w' L') (hri : RowInj L') (hbi : BoxInj L') : Rel nm N S a w' L' := by
  have hst : Step w w' L L' S.γ S.γ := by
    refine ⟨fun B hB => ⟨hL B _ hB, hheap B _ hB⟩, fun _ => Nat.le_refl _, ?_, fun B q o _ _ _ hB => hheap B _ hB, fun B r o _ hB => hL B _ hB⟩
    intro B q o _ _ hB
    exact ⟨hL B _ hB, fun cur e fz hc => ⟨cur, (hheap B _ hB).trans hc, rfl⟩⟩
  refine ⟨h.size, h.defers, ?_, ?_, h.bone, h.bound, fun r hg hr => let ⟨B, o, cur, e, fz, h1, h2, h3, h4⟩ := h.room r hg hr; ⟨B, o, cur, e, fz, hL B _ h1, (hheap B _ h1).trans h2, h3, h4⟩, hd, hri, hbi⟩
  · intro i
    refine (h.slot i).step hst ?_
    intro B q o hq hB
    refine ⟨?_, hheap B _ hB⟩
    rw [← hq, Place.at_self]
    exact hL B _ hB
  · intro r c x hx hxd
    exact (h.cell r c x hx hxd).step hst (fun B q o _ hB => ⟨hL B _ hB, hheap B _ hB⟩) (fun B o hB => ⟨hL B _ hB, fun cur e fz hc => ⟨cur, (hheap B _ hB).trans hc, rfl, rfl⟩⟩)
theorem Rel.drew (h : Rel nm N S a w L) : Rel nm N S a w.drew L :=
  h.grow (fun _ _ _ => rfl) (fun _ _ h => h) h.dom h.rowInj h.boxInj
theorem Mono.drew (w : World) (L : LabF) : Mono w w.drew L L := ⟨rfl, rfl, rfl, Nat.le_refl _, fun _ h => ⟨h, rfl⟩, fun _ _ h => ⟨h, rfl⟩, fun _ _ _ h => h⟩
def LabF.put (L : LabF) (B : Nat) (l : Lab) : LabF := fun B' => if B' = B then some l else L B'
theorem LabF.put_same (L : LabF) (B : Nat) (l : Lab) : L.put B l B = some l := by simp [LabF.put]
theorem LabF.put_other {L : LabF} {B B' : Nat} {l : Lab} (h : B' ≠ B) : L.put B l B' = L B' := by simp [LabF.put, h]
theorem heap_alloc_self (w : World) (o : Obj) : (w.alloc o).heap[w.heap.size]? = some o := by
  show (w.heap.push o)[w.heap.size]? = _
  simp
theorem heap_alloc_lt (w : World) (o : Obj) {B : Nat} (h : B ≠ w.heap.size) : (w.alloc o).heap[B]? = w.heap[B]? := by
  show (w.heap.push o)[B]? = _
  rw [Array.getElem?_push, if_neg (fun e => h e)]
theorem Dom.new (h : Dom w L) : L w.heap.size = none := by
  cases hl : L w.heap.size with
  | none => rfl
  | some l => exact absurd (h _ _ hl) (Nat.lt_irrefl _)
theorem Mono.alloc (w : World) (L : LabF) (hd : Dom w L) (o : Obj) (l : Lab) : Mono w (w.alloc o) L (L.put w.heap.size l) := by
  refine ⟨rfl, rfl, rfl, by simp, ?_, ?_, fun B i o hB => by rw [LabF.put_other (fun e => by rw [e, hd.new] at hB; cases hB)]; exact hB⟩
  · intro B hB
    have : B ≠ w.heap.size := fun e => by rw [e, hd.new] at hB; cases hB
    exact ⟨by rw [LabF.put_other this]; exact hB, heap_alloc_lt w _ this⟩
  · intro B hlt hB
    have : B ≠ w.heap.size := by omega
    exact ⟨by rw [LabF.put_other this]; exact hB, heap_alloc_lt w _ this⟩
end
end
section
theorem navQ_run {S : St} : ∀ (p : List (Nat × Nat)) (x y : D), (navQ x p).run S = some y → navD x p = some y
  | [], x, y, h => by
    have : x = y := by cases x <;> simpa [navQ] using h
    subst this; cases x <;> rfl
  | (i, c) :: p, x, y, h => by
    cases x with
    | sl t sz rows =>
      cases t with
      | own =>
        simp only [navQ, Q.run_bind, Q.run_ofO] at h
        rw [navD]
        cases h1 : rows[i]? with
        | none => simp [h1] at h
        | some row =>
          simp only [h1, Option.bind_some] at h ⊢
          cases h2 : row[c]? with
          | none => simp [h2] at h
          | some z =>
            simp only [h2, Option.bind_some] at h ⊢
            cases h3 : (Q.asOwn z).run S with
            | none => simp [h3] at h
            | some z' =>
              simp only [h3, Option.bind_some] at h
              obtain rfl := Q.run_asOwn S h3
              exact navQ_run p _ _ h
      | im b => simp [navQ] at h
    | _ => simp [navQ] at h
theorem ownAt_run {S : St} {ws : List Wr} {pl : Place} {g sz : Nat} {r : Ent × D × List (List D)} (h : (ownAt ws pl g sz).run S = some r) :
    r.1 = ⟨(S.wrs ws).E pl.k, S.γ pl.k⟩ ∧ g = S.γ pl.k ∧ ((S.wrs ws).E pl.k).cells[pl.j]? = some (.d r.2.1) ∧ navD r.2.1 pl.p = some (.sl .own sz r.2.2) := by
  unfold ownAt at h
  simp only [Q.run_bind, atP_run, Option.bind_some, Q.run_guard] at h
  by_cases hg : (S.γ pl.k == g) = true
  · simp only [hg, if_true, Option.bind_some] at h
    cases hc : ((S.wrs ws).E pl.k).cells[pl.j]? with
    | none => simp [hc] at h
    | some c =>
      rw [hc] at h
      cases c with
      | d x =>
        simp only [Q.run_bind] at h
        cases hn0 : (navQ x pl.p).run S with
        | none => simp [hn0] at h
        | some y =>
          have hn := navQ_run _ _ _ hn0
          simp only [hn0, Option.bind_some] at h
          cases y with
          | sl t sz' rows =>
            cases t with
            | own =>
              simp only [Q.run_bind, Q.run_guard] at h
              by_cases hs : (sz' == sz) = true
              · simp only [hs, if_true, Option.bind_some, Q.run_pure, Option.some.injEq] at h
                have hs' : sz' = sz := by simpa using hs
                subst h
                subst hs'
                exact ⟨rfl, by simpa using (beq_iff_eq.1 hg).symm, rfl, hn⟩
              · simp [hs] at h
            | im b => simp at h
          | int => simp at h
          | bool => simp at h
          | str => simp at h
          | dead => simp at h
      | _ => simp at h
  · simp [hg] at h
theorem Step.trans {w1 w2 w3 : World} {L1 L2 L3 : LabF} {γ1 γ2 γ3 : Key → Nat} (h : Step w1 w2 L1 L2 γ1 γ2) (k : Step w2 w3 L2 L3 γ2 γ3) : Step w1 w3 L1 L3 γ1 γ3 := by
  have hle : ∀ x, γ3 x = γ1 x → γ2 x = γ1 x ∧ γ3 x = γ2 x := fun x e => by
    have h1 := h.cnt x; have h2 := k.cnt x; omega
  refine ⟨fun B hB => ⟨(k.imm B (h.imm B hB).1).1, (k.imm B (h.imm B hB).1).2.trans (h.imm B hB).2⟩, fun x => Nat.le_trans (h.cnt x) (k.cnt x), ?_, ?_, ?_⟩
  · intro B q o hq he hB
    obtain ⟨e1, e2⟩ := hle _ he
    obtain ⟨g1, g2⟩ := h.view B q o hq e1 hB
    obtain ⟨g3, g4⟩ := k.view B q o hq e2 g1
    refine ⟨g3, fun cur e fz hc => ?_⟩
    obtain ⟨cur', g5, g6⟩ := g2 cur e fz hc
    obtain ⟨cur'', g7, g8⟩ := g4 cur' e fz g5
    exact ⟨cur'', g7, g8.trans g6⟩
  · intro B q o hq he ha hB
    obtain ⟨e1, e2⟩ := hle _ he
    obtain ⟨e3, e4⟩ := hle _ ha
    exact (k.app B q o hq e2 e4 (h.view B q o hq e1 hB).1).trans (h.app B q o hq e1 e3 hB)
  · intro B r o he hB
    obtain ⟨e1, e2⟩ := hle _ he
    exact k.box B r o e2 (h.box B r o e1 hB)
structure Mid (nm : FuncId → Option Nat) (N : Nat) (S0 : St) (w0 : World) (L0 : LabF) (ws : List Wr) (a : Act) (w : World) (L : LabF) : Prop where
  rel : Rel nm N (S0.wrs ws) a w L
  stp : Step w0 w L0 L S0.γ (S0.wrs ws).γ
  mono : Mono w0 w L0 L
  rows : ∀ B q o, q.k.isPl = true → L B = some (.row q o) → L0 B = some (.row q o)
  heap : ∀ B l, L0 B = some l → w.heap[B]? = w0.heap[B]?
  inj0 : RowInj L0
  boxes : ∀ B r o, L0 B = some (.box r o) → L B = some (.box r o)
section
variable {nm : FuncId → Option Nat} {N : Nat} {S0 : St} {w0 : World} {L0 : LabF} {ws : List Wr} {a : Act} {w : World} {L : LabF}
theorem Mid.init {S : St} (h : Rel nm N S a w L) : Mid nm N S w L [] a w L :=
  ⟨h, Step.same w L (fun _ => Nat.le_refl _), Mono.refl w L, fun _ _ _ _ h => h, fun _ _ _ => rfl, h.rowInj, fun _ _ _ h => h⟩
theorem Mid.freeze (M : Mid nm N S0 w0 L0 ws a w L) {k : Key} {j : Nat} {p : List (Nat × Nat)} {x : D} {sz : Nat} {rows : List (List D)}
    (hk : k.isPl = true) (hE : ((S0.wrs ws).E k).cells[j]? = some (.d x)) (hn : navD x p = some (.sl .own sz rows)) :
    Mid nm N S0 w0 L0 (setWr ws k (((S0.wrs ws).E k).setCell j (.d (setD x p (.sl (.im false) sz (plainRs rows)))))) a w (freezeL ⟨k, j, p⟩ L) := by
  have hk' : (∃ i, k = .s i) ∨ ∃ r c, k = .b r c := by
    cases k with
    | s i => exact .inl ⟨i, rfl⟩
    | b r c => exact .inr ⟨r, c, rfl⟩
    | _ => simp [Key.isPl] at hk
  have hrel := M.rel.freezeAt hk' hE hn
  refine ⟨hrel, M.stp.trans ?_, M.mono.trans (freezeL_mono _), fun B q o hq hB => M.rows B q o hq (freezeL_row' hB).1, M.heap, M.inj0, fun B r o hB => freezeL_box.2 (M.boxes B r o hB)⟩
  show Step w w L _ (S0.wrs ws).γ ((S0.wrs ws).wr { k, v := _ }).γ
  rw [γ_bump]
  refine ⟨fun B hB => ⟨freezeL_imm hB, rfl⟩, bump_le _ k, ?_, fun _ _ _ _ _ _ _ => rfl, fun B r o _ hB => freezeL_box.2 hB⟩
  intro B q o hq hγ hL
  exact ⟨freezeL_row hL (fun hu => bump_ne hγ hu.key.1), fun cur e fz hB => ⟨cur, hB, rfl⟩⟩
theorem viewPlain {t : Place} {sz off len : Nat} {rows : List (List D)} {u v : Value} {w0 : World} {L0 L : LabF} (hinj : RowInj L0)
    (hrows : ∀ B o, L B = some (.row t o) → L0 B = some (.row t o))
    (hd : RepD w L t (.sl .own sz rows) u) (hv : ViewAt w0 L0 t sz off len v) (hle : off + len ≤ rows.length) :
    RepP w (freezeL t L) (.sl (.im false) sz (plainRs ((rows.drop off).take len))) v := by
  by_cases hlen : len = 0
  · subst hlen
    simp only [List.take_zero, plainRs]
    rcases hv with ⟨_, a, rfl⟩ | ⟨B, o, cap, cur, e, fz, rfl, _⟩
    · exact .plE
    · exact .plE
  rcases hv with ⟨h0, _⟩ | ⟨B, o, cap, cur0, e0, fz0, rfl, hsz, hL0, _, _, hlecap, _⟩
  · exact absurd h0 hlen
  rcases hd.own_inv with ⟨rfl, _⟩ | ⟨B', o', cap', cur, e, fz, val, rfl, _, hL, hB, hfz, hlens, hcap, hroom, hval, hr, hu8⟩
  · simp at hle; omega
  have hL' := hrows B' o' hL
  obtain rfl := hinj B' B t o' o hL' hL0
  obtain rfl : o' = o := by rw [hL'] at hL0; simpa using hL0
  have hl : ((rows.drop off).take len).length = len := by simp; omega
  have hcell : ∀ i c x, cellOf (plainRs ((rows.drop off).take len)) i c = some x → ∃ y, cellOf rows (off + i) c = some y ∧ x = plainD y ∧ i < len := by
    intro i c x hx
    rw [cellOf_plain] at hx
    cases hy : cellOf ((rows.drop off).take len) i c with
    | none => simp [hy] at hx
    | some y =>
      simp only [hy, Option.map_some, Option.some.injEq] at hx
      obtain ⟨r, h1, h2⟩ := cellOf_some.1 hy
      have hil : i < len := by
        have := (List.getElem?_eq_some_iff.1 h1).1
        omega
      refine ⟨y, cellOf_some.2 ⟨r, ?_, h2⟩, hx.symm, hil⟩
      rw [List.getElem?_take_of_lt hil, List.getElem?_drop] at h1
      exact h1
  have hpl : (plainRs ((rows.drop off).take len)).length = len := by rw [plainRs_length, hl]
  have : RepP w (freezeL t L) (.sl (.im false) sz (plainRs ((rows.drop off).take len))) (.slice (some ⟨B', o' + off * sz, none⟩) (plainRs ((rows.drop off).take len)).length cap) := by
    refine .pl (cur := cur) (e := e) (fz := fz) (fun i c => val (off + i) c) ?_ hsz (by rw [hpl]; exact hlecap) (freezeL_under hL (Under.refl _)) hB ?_ ?_ ?_
    · intro h; rw [h] at hpl; simp at hpl; omega
    · intro r hr'
      rw [plainRs_eq] at hr'
      obtain ⟨r1, h1, rfl⟩ := List.mem_map.1 hr'
      simpa using hlens r1 (List.mem_of_mem_drop (List.mem_of_mem_take h1))
    · intro i c x hx
      obtain ⟨y, h1, _, _⟩ := hcell i c x hx
      have := hval _ _ _ h1
      rw [Nat.add_mul] at this
      rw [show o' + off * sz + i * sz + c = o' + (off * sz + i * sz) + c by omega]
      exact this
    · intro i c x hx
      obtain ⟨y, h1, rfl, _⟩ := hcell i c x hx
      exact RepD.freeze (Under t) (fun q i c h => h.sub i c) (fun B hB => ⟨freezeL_imm hB, rfl⟩) (fun B q o hq hL => ⟨freezeL_under hL hq, rfl⟩) (hr _ _ _ h1) ((Under.refl t).sub _ _)
  rwa [hpl] at this
theorem Rel.cellRep {S : St} (h : Rel nm N S a w L) {k : Key} {j : Nat} {x : D} (hk : k.isPl = true)
    (hE : (S.E k).cells[j]? = some (.d x)) : ∃ u, RepD w L ⟨k, j, []⟩ x u := by
  cases k with
  | s i =>
    have := h.slot i
    cases hv : S.E (.s i) with
    | one c =>
      rw [hv] at this hE
      cases this with
      | one hc =>
        cases j with
        | succ j => simp [V.cells] at hE
        | zero =>
          simp only [V.cells, List.getElem?_cons_zero, Option.some.injEq] at hE
          subst hE
          cases hc with
          | d hd => exact ⟨_, hd⟩
    | agg cs =>
      rw [hv] at this hE
      generalize a.tmps.getD i undef = v0 at this
      cases this with
      | agg hl hc =>
        rename_i vs
        simp only [V.cells] at hE
        have hj : j < vs.size := by rw [← hl]; exact (List.getElem?_eq_some_iff.1 hE).1
        have := hc j _ vs[j] hE (by simp [hj])
        cases this with
        | d hd => exact ⟨_, hd⟩
    | tup vs => simp [hv, V.cells] at hE
  | b r c =>
    obtain ⟨c0, hv⟩ := h.bone r c
    rw [hv] at hE
    cases j with
    | succ j => simp [V.cells] at hE
    | zero =>
      simp only [V.cells, List.getElem?_cons_zero, Option.some.injEq] at hE
      subst hE
      have hcell := h.cell r c _ hv (by simp)
      cases r with
      | g i => obtain ⟨v, hv⟩ := hcell; cases hv with | d hd => exact ⟨_, hd⟩
      | e i => obtain ⟨B, o, cur, e, fz, v, _, _, _, _, hv, _⟩ := hcell; cases hv with | d hd => exact ⟨_, hd⟩
      | l i => obtain ⟨B, o, cur, e, fz, v, _, _, _, _, hv, _⟩ := hcell; cases hv with | d hd => exact ⟨_, hd⟩
  | r r => simp [Key.isPl] at hk
  | h i => simp [Key.isPl] at hk
  | a k => simp [Key.isPl] at hk
theorem RepD.sliceLike {pl : Place} {sz : Nat} {rows : List (List D)} {v : Value} (h : RepD w L pl (.sl .own sz rows) v) : SliceLike rows.length v := by
  rcases h.own_inv with ⟨rfl, a, rfl⟩ | ⟨B, o, cap, cur, e, fz, val, rfl, hsz, hL, hB, hfz, hlens, hcap, hroom, hval, hr, hu8⟩
  · exact ⟨_, _, rfl, Nat.le_refl _, rfl⟩
  · exact ⟨_, _, rfl, hcap, rfl⟩
theorem RepC.look {γ : Key → Nat} {k : Key} {j : Nat} {c : C} {v : Value} (hk : k.isPl = true) (h : RepC nm w L γ k j c v) (k' : Key) (j' : Nat) :
    RepC nm w L γ k' j' (c.look k (γ k) j) v := by
  by_cases hbl : ∃ t, c = .bld t
  · obtain ⟨t, rfl⟩ := hbl; exact .dead
  cases hc : c.own with
  | false =>
    have : c.look k (γ k) j = c := by
      cases c with
      | d x =>
        cases x with
        | sl t sz rows => cases t <;> simp_all [C.own, C.look]
        | _ => rfl
      | appd => simp [C.own] at hc
      | bld t => exact absurd ⟨t, rfl⟩ hbl
      | mp => simp [C.own] at hc
      | _ => rfl
    rw [this]
    exact h.any (h.clean_of hc) _ _
  | true =>
    cases h with
    | @d x v h =>
      cases x with
      | sl t sz rows =>
        cases t with
        | own =>
          simp only [C.look]
          refine .view h.sliceLike hk (Nat.le_refl _) (fun _ => ?_)
          rcases h.own_inv with ⟨rfl, a, rfl⟩ | ⟨B, o, cap, cur, e, fz, val, rfl, hsz, hL, hB, hfz, hlens, hcap, hroom, hval, hr, hu8⟩
          · exact .inl ⟨rfl, a, rfl⟩
          · exact .inr ⟨B, o, cap, cur, e, fz, by simp, hsz, hL, hB, hfz, hcap, by omega, fun _ h0 => hu8 (.inr (List.length_eq_zero_iff.1 h0))⟩
        | im b => simp [C.own] at hc
      | _ => simp [C.own] at hc
    | appd => simp only [C.look]; exact .dead
    | bld => exact absurd ⟨_, rfl⟩ hbl
    | mp => simp only [C.look]; exact .dead
    | _ => simp [C.own] at hc
theorem lookL_get (k : Key) (g : Nat) : ∀ (cs : List C) (j0 j : Nat) , (lookL k g j0 cs)[j]? = (cs[j]?).map fun c => c.look k g (j0 + j)
  | [], _, _ => by simp [lookL]
  | c :: cs, j0, 0 => by simp [lookL]
  | c :: cs, j0, j + 1 => by
    simp only [lookL, List.getElem?_cons_succ]
    rw [lookL_get k g cs (j0 + 1) j]
    congr 1
    funext c
    congr 1
    omega
theorem lookL_length (k : Key) (g : Nat) : ∀ (cs : List C) (j0 : Nat), (lookL k g j0 cs).length = cs.length
  | [], _ => rfl
  | c :: cs, j0 => by simp [lookL, lookL_length k g cs]
theorem RepV.look {γ : Key → Nat} {k : Key} {x : V} {v : Value} (hk : k.isPl = true) (h : RepV nm w L γ k x v) (k' : Key) : RepV nm w L γ k' (x.look k (γ k)) v := by
  cases h with
  | one h => exact .one (h.look hk _ _)
  | agg hl h =>
    refine .agg (by rw [lookL_length]; exact hl) ?_
    intro j c u h1 h2
    rw [lookL_get] at h1
    simp only [Nat.zero_add] at h1
    rename_i cs vs
    cases hc : cs[j]? with
    | none => simp [hc] at h1
    | some c0 =>
      simp only [hc, Option.map_some, Option.some.injEq] at h1
      subst h1
      exact (h j c0 u hc h2).look hk _ _
  | tup hl hcl h => exact .tup hl hcl (fun i x u h1 h2 => (h i x u h1 h2).any (cleanVs_get hcl h1) _)
inductive OpRel (nm : FuncId → Option Nat) : X → Operand → Prop where
  | s {i} : OpRel nm (.s i) (.tmp i)
  | t {i} : OpRel nm (.t i) (.tmp i)
  | c {x v} (h : ∀ (w : World) (L : LabF) (γ : Key → Nat) (k : Key), RepV nm w L γ k x v) : OpRel nm (.c x) (.const v)
  | f {n f} (h : nm f = some n) (ht : n < fnsTag) : OpRel nm (.f n) (.func f)
theorem rd_rep {S : St} (h : Rel nm N S a w L) {x : X} {o : Operand} (ho : OpRel nm x o) {v : V} (hr : (rd x).run S = some v) (k : Key) :
    RepV nm w L S.γ k v (a.eval o) := by
  cases ho with
  | @s i =>
    simp only [rd, Q.run_bind, Q.run_at, Option.bind_some, Q.run_pure, Option.some.injEq] at hr
    subst hr
    exact (h.slot i).look rfl k
  | @t i =>
    simp only [rd, Q.run_bind, Q.run_at, Option.bind_some, Q.run_pure, Option.some.injEq] at hr
    subst hr
    exact (h.slot i).look rfl k
  | @c x v hc =>
    simp only [rd, Q.run_pure, Option.some.injEq] at hr
    subst hr
    exact hc w L S.γ k
  | @f n fid hf ht =>
    simp only [rd, Q.run_pure, Option.some.injEq] at hr
    subst hr
    exact .one (.fn (fs := #[]) (cs := #[]) ht hf rfl rfl ⟨rfl, rfl⟩ (fun i x u h => by simp at h) (fun i x u h => by simp at h))
theorem RepC.stepClean {w' : World} {L' : LabF} {γ γ' : Key → Nat} (hs : Step w w' L L' γ γ') {k : Key} {j : Nat} {c : C} {v : Value} (h : RepC nm w L γ k j c v)
    (hc : c.clean = true) (k' : Key) (j' : Nat) : RepC nm w' L' γ' k' j' c v := by
  induction h with
  | @d x v h =>
    cases h with
    | plain h => exact .d (.plain (h.mono hs.imm))
    | ownE => simp [C.clean] at hc
    | own => simp [C.clean] at hc
  | @ptr r g c v hv hg h =>
    refine .ptr hv (Nat.le_trans hg (hs.cnt _)) ?_
    intro he
    have : γ' (.r r) = γ (.r r) := Nat.le_antisymm (he ▸ hg) (hs.cnt _)
    obtain ⟨B, o, h1, h2⟩ := h (he.trans this)
    exact ⟨B, o, hs.box B r o this h1, h2⟩
  | @eptr pl g sz i c v hv hh hg h =>
    refine .eptr hv hh (Nat.le_trans hg (hs.cnt _)) ?_
    intro he
    have : γ' pl.k = γ pl.k := Nat.le_antisymm (he ▸ hg) (hs.cnt _)
    obtain ⟨B, o, h1, h2⟩ := h (he.trans this)
    exact ⟨B, o, (hs.view B pl o hh this h1).1, h2⟩
  | pp hL hB h =>
    refine .pp (hs.imm _ hL).1 ((hs.imm _ hL).2.trans hB) ?_
    intro q x hx
    obtain ⟨u, h1, h2⟩ := h q x hx
    exact ⟨u, h1, h2.mono hs.imm⟩
  | @view pl g sz off len v hv hh hg h =>
    refine .view hv hh (Nat.le_trans hg (hs.cnt _)) ?_
    intro he
    have : γ' pl.k = γ pl.k := Nat.le_antisymm (he ▸ hg) (hs.cnt _)
    exact (h (he.trans this)).step hs hh this
  | appd => simp [C.clean] at hc
  | fn hft hf h1 h2 hcl h3 h4 ih3 ih4 =>
    exact .fn hft hf h1 h2 hcl (fun i x u hx hu => ih3 i x u hx hu (cleanL_get hcl.1 hx)) (fun i x u hx hu => ih4 i x u hx hu (cleanL_get hcl.2 hx))
  | fns val hf hL hB hcl hv h ih => exact .fns val hf (hs.imm _ hL).1 ((hs.imm _ hL).2.trans hB) hcl hv (fun i x hx => ih i x hx (cleanL_get hcl hx))
  | nilp => exact .nilp
  | nilf => exact .nilf
  | nili => exact .nili
  | ifc => exact .ifc
  | bld => simp [C.clean] at hc
  | mp => simp [C.clean] at hc
  | @mref i g v hv hg h =>
    refine .mref hv (Nat.le_trans hg (hs.cnt _)) ?_
    intro he
    have : γ' (.b (.g i) 0) = γ (.b (.g i) 0) := Nat.le_antisymm (he ▸ hg) (hs.cnt _)
    obtain ⟨B, h1, h2⟩ := h (he.trans this)
    exact ⟨B, (hs.view B _ 0 rfl this h1).1, h2⟩
  | dead => exact .dead
theorem RepV.stepClean {w' : World} {L' : LabF} {γ γ' : Key → Nat} (hs : Step w w' L L' γ γ') {k : Key} {x : V} {v : Value} (h : RepV nm w L γ k x v)
    (hc : x.clean = true) (k' : Key) : RepV nm w' L' γ' k' x v := by
  induction h with
  | one h => exact .one (h.stepClean hs hc _ _)
  | agg hl h => exact .agg hl (fun j c u h1 h2 => (h j c u h1 h2).stepClean hs (cleanL_get hc h1) _ _)
  | tup hl hcl h ih => exact .tup hl hcl (fun i x u h1 h2 => ih i x u h1 h2 (cleanVs_get hcl h1))
def LimC (nm : FuncId → Option Nat) (w0 : World) (L0 : LabF) (γ0 : Key → Nat) (w : World) (L : LabF) (γ : Key → Nat) (m j : Nat) (c : C) (v : Value) : Prop :=
  match c with
  | .view .. => RepC nm w0 L0 γ0 (.h m) j c v
  | _ => RepC nm w L γ (.h m) j c v
theorem LimC.of_rep {γ0 γ : Key → Nat} (hs : Step w0 w L0 L γ0 γ) {k : Key} {m j j' : Nat} {c : C} {v : Value} (h : RepC nm w0 L0 γ0 k j' c v) (hc : c.own = false) : LimC nm w0 L0 γ0 w L γ m j c v := by
  have hcl := h.clean_of hc
  have hst : RepC nm w L γ (.h m) j c v := h.stepClean hs hcl _ _
  have h0 : RepC nm w0 L0 γ0 (.h m) j c v := h.any hcl _ _
  cases c with
  | view => exact h0
  | _ => exact hst
structure Keep (w w' : World) (L L' : LabF) (γ γ' : Key → Nat) (K : Place → Prop) : Prop where
  stp : Step w w' L L' γ γ'
  h : ∀ B q o, q.k.isPl = false → K q → L B = some (.row q o) → L' B = some (.row q o) ∧ w'.heap[B]? = w.heap[B]?
theorem LimC.keep {γ0 γ γ' : Key → Nat} {w' : World} {L' : LabF} {m j : Nat} {c : C} {v : Value} {K : Place → Prop} (hk : Keep w w' L L' γ γ' K)
    (hK : ∀ p, K ⟨.h m, j, p⟩) (h : LimC nm w0 L0 γ0 w L γ m j c v) : LimC nm w0 L0 γ0 w' L' γ' m j c v := by
  have step : ∀ {c : C}, RepC nm w L γ (.h m) j c v → RepC nm w' L' γ' (.h m) j c v := by
    intro c hc
    refine hc.step hk.stp ?_
    intro B q o h1 h2 hL
    have := hk.h B q o (by rw [h1]; rfl) (by have := hK q.p; rw [← h1, ← h2] at this; exact this) hL
    rwa [← h1, ← h2, Place.at_self]
  cases c with
  | view => exact h
  | _ => exact step h
theorem RepC.keep {γ γ' : Key → Nat} {w' : World} {L' : LabF} {m j : Nat} {c : C} {v : Value} {K : Place → Prop} (hk : Keep w w' L L' γ γ' K)
    (hK : ∀ p, K ⟨.h m, j, p⟩) (h : RepC nm w L γ (.h m) j c v) : RepC nm w' L' γ' (.h m) j c v := by
  refine h.step hk.stp ?_
  intro B q o h1 h2 hL
  have := hk.h B q o (by rw [h1]; rfl) (by have := hK q.p; rw [← h1, ← h2] at this; exact this) hL
  rwa [← h1, ← h2, Place.at_self]
def LimV (nm : FuncId → Option Nat) (w0 : World) (L0 : LabF) (γ0 : Key → Nat) (w : World) (L : LabF) (γ : Key → Nat) (m : Nat) (x : V) (v : Value) : Prop :=
  match x with
  | .one c => LimC nm w0 L0 γ0 w L γ m 0 c v
  | .agg cs => ∃ vs : Array Value, v = .agg vs ∧ cs.length = vs.size ∧ ∀ (j : Nat) c u, cs[j]? = some c → vs[j]? = some u → LimC nm w0 L0 γ0 w L γ m j c u
  | .tup _ => RepV nm w L γ (.h m) x v
theorem LimV.keep {γ0 γ γ' : Key → Nat} {w' : World} {L' : LabF} {m : Nat} {x : V} {v : Value} {K : Place → Prop} (hk : Keep w w' L L' γ γ' K)
    (hK : ∀ j p, K ⟨.h m, j, p⟩) (h : LimV nm w0 L0 γ0 w L γ m x v) : LimV nm w0 L0 γ0 w' L' γ' m x v := by
  cases x with
  | one c => exact LimC.keep hk (hK 0) h
  | agg cs =>
    obtain ⟨vs, rfl, hl, hc⟩ := h
    exact ⟨vs, rfl, hl, fun j c u h1 h2 => (hc j c u h1 h2).keep hk (hK j)⟩
  | tup vs =>
    refine RepV.step hk.stp ?_ h
    intro B q o h1 hL
    have := hk.h B q o (by rw [h1]; rfl) (by have := hK q.j q.p; rw [← h1] at this; exact this) hL
    rwa [← h1, Place.at_self]
theorem own_get {x : V} {j : Nat} {c : C} (h : x.own = false) (hc : x.cells[j]? = some c) : c.own = false := by
  unfold V.own at h
  rw [List.any_eq_false] at h
  have := h c (List.mem_of_getElem? hc)
  simpa using this
theorem LimV.of_rep {γ0 γ : Key → Nat} (hs : Step w0 w L0 L γ0 γ) {k : Key} {m : Nat} {x : V} {v : Value} (h : RepV nm w0 L0 γ0 k x v) (hc : x.own = false) : LimV nm w0 L0 γ0 w L γ m x v := by
  cases h with
  | one h => exact LimC.of_rep hs h (own_get (j := 0) hc rfl)
  | @agg cs vs hl h => exact ⟨vs, rfl, hl, fun j c u h1 h2 => LimC.of_rep hs (h j c u h1 h2) (own_get hc h1)⟩
  | tup hl hcl h => exact RepV.stepClean hs (.tup hl hcl h) (by simpa [V.clean] using hcl) _
theorem look_own (k : Key) (g j : Nat) (c : C) : (c.look k g j).own = false := by
  cases c with
  | d x =>
    cases x with
    | sl t sz rows => cases t <;> rfl
    | _ => rfl
  | _ => rfl
theorem lookL_own (k : Key) (g : Nat) : ∀ (cs : List C) (j : Nat), (lookL k g j cs).any C.own = false
  | [], _ => rfl
  | c :: cs, j => by simp [lookL, look_own, lookL_own k g cs (j + 1)]
theorem V.look_own (k : Key) (g : Nat) (x : V) : (x.look k g).own = false := by
  cases x with
  | one c => simp [V.look, V.own, V.cells, Go.Abs.look_own]
  | agg cs => simp only [V.look, V.own, V.cells]; exact lookL_own k g cs 0
  | tup vs => rfl
def X.okC : X → Bool
  | .c v => !v.own
  | _ => true
theorem rd_own {S : St} {x : X} (hx : x.okC = true) {v : V} (hr : (rd x).run S = some v) : v.own = false := by
  cases x with
  | s i =>
    simp only [rd, Q.run_bind, Q.run_at, Option.bind_some, Q.run_pure, Option.some.injEq] at hr
    subst hr; exact V.look_own _ _ _
  | t i =>
    simp only [rd, Q.run_bind, Q.run_at, Option.bind_some, Q.run_pure, Option.some.injEq] at hr
    subst hr; exact V.look_own _ _ _
  | c v =>
    simp only [rd, Q.run_pure, Option.some.injEq] at hr
    subst hr; simpa [X.okC] using hx
  | f n =>
    simp only [rd, Q.run_pure, Option.some.injEq] at hr
    subst hr; rfl
structure Out (nm : FuncId → Option Nat) (N : Nat) (S0 : St) (w0 : World) (L0 : LabF) (ws ws' : List Wr) (a : Act) (w : World) (L L' : LabF) (K : Place → Prop) (m : Nat) : Prop where
  mid : Mid nm N S0 w0 L0 ws' a w L'
  stp : Step w w L L' (S0.wrs ws).γ (S0.wrs ws').γ
  keepH : ∀ B q o, q.k.isPl = false → K q → L B = some (.row q o) → L' B = some (.row q o)
  onlyH : ∀ B q o, q.k.isPl = false → q.k ≠ .h m → L' B = some (.row q o) → L B = some (.row q o)
theorem Out.refl (M : Mid nm N S0 w0 L0 ws a w L) (K : Place → Prop) (m : Nat) : Out nm N S0 w0 L0 ws ws a w L L K m :=
  ⟨M, Step.same w L (fun _ => Nat.le_refl _), fun _ _ _ _ _ h => h, fun _ _ _ _ _ h => h⟩
theorem Out.trans {ws' ws'' : List Wr} {L' L'' : LabF} {K : Place → Prop} {m : Nat} (h : Out nm N S0 w0 L0 ws ws' a w L L' K m) (k : Out nm N S0 w0 L0 ws' ws'' a w L' L'' K m) :
    Out nm N S0 w0 L0 ws ws'' a w L L'' K m :=
  ⟨k.mid, h.stp.trans k.stp, fun B q o h1 h2 h3 => k.keepH B q o h1 h2 (h.keepH B q o h1 h2 h3), fun B q o h1 h2 h3 => h.onlyH B q o h1 h2 (k.onlyH B q o h1 h2 h3)⟩
theorem Out.weaken {ws' : List Wr} {L' : LabF} {K K' : Place → Prop} {m : Nat} (h : Out nm N S0 w0 L0 ws ws' a w L L' K m) (hK : ∀ q, K' q → K q) : Out nm N S0 w0 L0 ws ws' a w L L' K' m :=
  ⟨h.mid, h.stp, fun B q o h1 h2 => h.keepH B q o h1 (hK q h2), h.onlyH⟩
theorem Out.keep {ws' : List Wr} {L' : LabF} {K : Place → Prop} {m : Nat} (h : Out nm N S0 w0 L0 ws ws' a w L L' K m) : Keep w w L L' (S0.wrs ws).γ (S0.wrs ws').γ K :=
  ⟨h.stp, fun B q o h1 h2 h3 => ⟨h.keepH B q o h1 h2 h3, rfl⟩⟩
theorem Out.free {ws' : List Wr} {L' : LabF} {K : Place → Prop} {m m' : Nat} (h : Out nm N S0 w0 L0 ws ws' a w L L' K m) (hf : FreeH L m') (hne : m' ≠ m) : FreeH L' m' := by
  intro B q o hL e
  exact hf B q o (h.onlyH B q o (by rw [e]; rfl) (by rw [e]; simpa using hne) hL) e
theorem tk_rep (M : Mid nm N S0 w0 L0 ws a w L) (R0 : Rel nm N S0 a w0 L0) {m : Nat} (hm : FreeH L m) {x : X} {o : Operand} (hx : x.okC = true) (ho : OpRel nm x o) {r : V × List Wr}
    (hr : (tk ws x).run S0 = some r) :
    ∃ L', Out nm N S0 w0 L0 ws r.2 a w L L' (fun _ => True) m ∧ LimV nm w0 L0 S0.γ w L' (S0.wrs r.2).γ m r.1 (a.eval o) := by
  have reads : ∀ v, (rd x).run S0 = some v → LimV nm w0 L0 S0.γ w L (S0.wrs ws).γ m v (a.eval o) := fun v hv =>
    LimV.of_rep M.stp (rd_rep R0 ho hv (.h m)) (rd_own hx hv)
  cases x with
  | t i =>
    cases ho with
    | t =>
    simp only [tk, Q.run_bind, Q.run_at, Option.bind_some, Q.run_guard] at hr
    cases hw : getWr ws (.s i) with
    | some v => simp [hw] at hr
    | none =>
      simp only [hw, Option.isNone_none, if_true, Option.bind_some, Q.run_ite, Q.run_pure] at hr
      have hE : (S0.wrs ws).E (.s i) = S0.E (.s i) := by rw [getWr_E, hw]; rfl
      by_cases hown : S0.E (.s i) |>.own
      · have hown' : (S0.get (.s i)).v.own = true := hown
        simp only [hown', if_true, Option.some.injEq] at hr
        subst hr
        obtain ⟨L', h1, h2, h3, h4, h5, h6, h7⟩ := M.rel.take i m hm
        rw [hE] at h2
        have hstep : Step w w L L' (S0.wrs ws).γ ((S0.wrs ws).wr { k := .s i, v := V.dead }).γ := by
          refine ⟨fun B hB => ⟨(h3 B).1 hB, rfl⟩, St.γ_wr_le _ _, ?_, fun _ _ _ _ _ _ _ => rfl, fun B r o _ hB => (h6 B r o).1 hB⟩
          intro B q o hq hγ hL
          rw [γ_bump] at hγ
          have hne := bump_ne hγ
          exact ⟨(h4 B q o hne (by intro e; rw [e] at hq; simp [Key.isPl] at hq)).1 hL, fun cur e fz hB => ⟨cur, hB, rfl⟩⟩
        refine ⟨L', ⟨⟨h1, M.stp.trans hstep, ?_, ?_, M.heap, M.inj0, fun B r o hB => (h6 B r o).1 (M.boxes B r o hB)⟩, hstep, ?_, ?_⟩, ?_⟩
        · exact M.mono.trans ⟨rfl, rfl, rfl, Nat.le_refl _, fun B hB => ⟨(h3 B).1 hB, rfl⟩, fun B _ hB => ⟨(h5 B).2 hB, rfl⟩, fun B i o hB => (h6 B _ o).1 hB⟩
        · intro B q o hq hL
          by_cases hqs : q.k = .s i
          · exact absurd hqs (h7 B q o hL)
          · exact M.rows B q o hq ((h4 B q o hqs (by intro e; rw [e] at hq; simp [Key.isPl] at hq)).2 hL)
        · intro B q o hq _ hL
          by_cases hqm : q.k = .h m
          · exact absurd hqm (hm B q o hL)
          · exact (h4 B q o (by intro e; rw [e] at hq; simp [Key.isPl] at hq) hqm).1 hL
        · intro B q o hq hqm hL
          exact (h4 B q o (by intro e; rw [e] at hq; simp [Key.isPl] at hq) hqm).2 hL
        · have h0 := R0.slot i
          show LimV nm w0 L0 S0.γ w L' _ m (S0.E (.s i)) (a.tmps.getD i undef)
          generalize a.tmps.getD i undef = v0 at *
          cases hv : S0.E (.s i) with
          | one c =>
            rw [hv] at h2 h0
            cases h2 with
            | one h2 =>
              cases h0 with
              | one h0 =>
                cases c with
                | view => exact h0.any rfl _ _
                | _ => exact h2
          | agg cs =>
            rw [hv] at h2 h0
            cases h2 with
            | @agg _ vs hl h2 =>
              refine ⟨vs, rfl, hl, ?_⟩
              intro j c u g1 g2
              cases h0 with
              | agg hl0 h0 =>
                cases c with
                | view => exact (h0 j _ u g1 g2).any rfl _ _
                | _ => exact h2 j _ u g1 g2
          | tup vs => rw [hv] at h2; exact h2
      · have hown1 : (S0.E (.s i)).own = false := by simpa using hown
        have hown' : (S0.get (.s i)).v.own = false := hown1
        simp only [hown', Bool.false_eq_true, if_false, Option.some.injEq] at hr
        subst hr
        exact ⟨L, Out.refl M _ m, LimV.of_rep M.stp (R0.slot i) hown'⟩
  | s i =>
    simp only [tk, Q.run_bind] at hr
    cases hv : (rd (.s i)).run S0 with
    | none => simp [hv] at hr
    | some v =>
      simp only [hv, Option.bind_some, Q.run_pure, Option.some.injEq] at hr
      subst hr
      exact ⟨L, Out.refl M _ m, reads v hv⟩
  | c cv =>
    simp only [tk, Q.run_bind] at hr
    cases hv : (rd (.c cv)).run S0 with
    | none => simp [hv] at hr
    | some v =>
      simp only [hv, Option.bind_some, Q.run_pure, Option.some.injEq] at hr
      subst hr
      exact ⟨L, Out.refl M _ m, reads v hv⟩
  | f n =>
    simp only [tk, Q.run_bind] at hr
    cases hv : (rd (.f n)).run S0 with
    | none => simp [hv] at hr
    | some v =>
      simp only [hv, Option.bind_some, Q.run_pure, Option.some.injEq] at hr
      subst hr
      exact ⟨L, Out.refl M _ m, reads v hv⟩
theorem γ_wrs_none {S : St} : ∀ {ws : List Wr} {k : Key}, getWr ws k = none → (S.wrs ws).γ k = S.γ k
  | [], _, _ => rfl
  | x :: t, k, h => by
    simp only [getWr] at h
    by_cases hk : x.k = k
    · simp [hk] at h
    · simp only [hk, if_false] at h
      simp only [St.wrs, St.γ_wr, hk, if_false]
      exact γ_wrs_none h
theorem fresh_γ {S : St} {ws : List Wr} {k : Key} (h : fresh ws k = true) : (S.wrs ws).γ k = S.γ k ∧ (S.wrs ws).γ (.a k) = S.γ (.a k) ∧ (S.wrs ws).E k = S.E k := by
  simp only [fresh, Bool.and_eq_true, Option.isNone_iff_eq_none] at h
  exact ⟨γ_wrs_none h.1, γ_wrs_none h.2, by rw [getWr_E, h.1]; rfl⟩
theorem Rel.turnH {S : St} (h : Rel nm N S a w L) {L' : LabF} (himm : ∀ B, L B = some .imm → L' B = some .imm)
    (hrow : ∀ B q o, q.k.isPl = true → (L B = some (.row q o) → L' B = some (.row q o)))
    (hbox : ∀ B r o, L' B = some (.box r o) ↔ L B = some (.box r o)) (hd : ∀ B l, L' B = some l → ∃ l0, L B = some l0) (hri : RowInj L') : Rel nm N S a w L' := by
  have hst : Step w w L L' S.γ S.γ := by
    refine ⟨fun B hB => ⟨himm B hB, rfl⟩, fun _ => Nat.le_refl _, ?_, fun _ _ _ _ _ _ _ => rfl, fun B r o _ hB => (hbox B r o).2 hB⟩
    intro B q o hq _ hB
    exact ⟨hrow B q o hq hB, fun cur e fz hc => ⟨cur, hc, rfl⟩⟩
  refine ⟨h.size, h.defers, ?_, ?_, h.bone, h.bound, fun r hg hr => let ⟨B, o, cur, e, fz, h1, h2, h3, h4⟩ := h.room r hg hr; ⟨B, o, cur, e, fz, (hbox _ _ _).2 h1, h2, h3, h4⟩, ?_, hri, ?_⟩
  · intro i
    refine (h.slot i).step hst ?_
    intro B q o hq hB
    refine ⟨?_, rfl⟩
    rw [← hq, Place.at_self]
    exact hrow B q o (by rw [hq]; rfl) hB
  · intro r c x hx hxd
    exact (h.cell r c x hx hxd).step hst (fun B q o hq hB => ⟨hrow B q o (by rw [hq]; rfl) hB, rfl⟩) (fun B o hB => ⟨(hbox _ _ _).2 hB, fun cur e fz hc => ⟨cur, hc, rfl, rfl⟩⟩)
  · intro B l hB
    obtain ⟨l0, h0⟩ := hd B l hB
    exact h.dom B l0 h0
  · intro B B' r o o' h1 h2
    exact h.boxInj B B' r o o' ((hbox _ _ _).1 h1) ((hbox _ _ _).1 h2)
theorem Place.app_self (pl : Place) : (⟨pl.k, pl.j, []⟩ : Place).app pl.p = pl := by cases pl; simp [Place.app]
theorem Mid.at_own (M : Mid nm N S0 w0 L0 ws a w L) {pl : Place} (hk : pl.k.isPl = true) {x : D} {sz : Nat} {rows : List (List D)}
    (hE : ((S0.wrs ws).E pl.k).cells[pl.j]? = some (.d x)) (hn : navD x pl.p = some (.sl .own sz rows)) : ∃ u, RepD w L pl (.sl .own sz rows) u := by
  obtain ⟨u, hu⟩ := M.rel.cellRep hk hE
  obtain ⟨u', hu'⟩ := hu.nav pl.p hn
  rw [Place.app_self] at hu'
  exact ⟨u', hu'⟩
theorem under_pl {t q : Place} (ht : t.k.isPl = true) (hq : q.k.isPl = false) : ¬ Under t q := by
  intro h
  rw [h.key.1, ht] at hq
  cases hq
theorem Out.freeze (M : Mid nm N S0 w0 L0 ws a w L) {pl : Place} (hk : pl.k.isPl = true) {x : D} {sz : Nat} {rows : List (List D)}
    (hE : ((S0.wrs ws).E pl.k).cells[pl.j]? = some (.d x)) (hn : navD x pl.p = some (.sl .own sz rows)) (m : Nat) :
    Out nm N S0 w0 L0 ws (setWr ws pl.k (((S0.wrs ws).E pl.k).setCell pl.j (.d (setD x pl.p (.sl (.im false) sz (plainRs rows)))))) a w L (freezeL pl L) (fun _ => True) m := by
  refine ⟨M.freeze hk hE hn, ?_, fun B q o hq _ hL => freezeL_row hL (under_pl hk hq), fun B q o _ _ hL => (freezeL_row' hL).1⟩
  show Step w w L _ (S0.wrs ws).γ ((S0.wrs ws).wr { k := pl.k, v := _ }).γ
  rw [γ_bump]
  refine ⟨fun B hB => ⟨freezeL_imm hB, rfl⟩, bump_le _ _, ?_, fun _ _ _ _ _ _ _ => rfl, fun B r o _ hB => freezeL_box.2 hB⟩
  intro B q o hq hγ hL
  exact ⟨freezeL_row hL (fun hu => bump_ne hγ hu.key.1), fun cur e fz hB => ⟨cur, hB, rfl⟩⟩
theorem st_rep (M : Mid nm N S0 w0 L0 ws a w L) {m j : Nat} {c : C} {v : Value} (hc : LimC nm w0 L0 S0.γ w L (S0.wrs ws).γ m j c v) {r : C × List Wr}
    (hr : (st ws c).run S0 = some r) :
    ∃ L', Out nm N S0 w0 L0 ws r.2 a w L L' (fun q => ¬ (q.k = .h m ∧ q.j = j)) m ∧ RepC nm w L' (S0.wrs r.2).γ (.h m) j r.1 v := by
  have triv : ∀ c0 : C, st ws c0 = pure (c0, ws) → LimC nm w0 L0 S0.γ w L (S0.wrs ws).γ m j c0 v → (∀ pl g sz off len, c0 ≠ .view pl g sz off len) → (st ws c0).run S0 = some r →
      ∃ L', Out nm N S0 w0 L0 ws r.2 a w L L' (fun q => ¬ (q.k = .h m ∧ q.j = j)) m ∧ RepC nm w L' (S0.wrs r.2).γ (.h m) j r.1 v := by
    intro c0 h0 h1 hnv h2
    rw [h0] at h2
    simp only [Q.run_pure, Option.some.injEq] at h2
    subst h2
    refine ⟨L, Out.refl M _ m, ?_⟩
    cases c0 with
    | view pl g sz off len => exact absurd rfl (hnv pl g sz off len)
    | _ => exact h1
  cases c with
  | view pl g sz off len =>
    simp only [st, Q.run_bind] at hr
    cases ho : (ownAt ws pl g sz).run S0 with
    | none => simp [ho] at hr
    | some e =>
      obtain ⟨e, x, rows⟩ := e
      obtain ⟨rfl, hg, hE, hn⟩ := ownAt_run ho
      simp only [ho, Option.bind_some, Q.run_bind, Q.run_guard] at hr
      by_cases hle : off + len ≤ rows.length
      · simp only [decide_eq_true hle, if_true, Option.bind_some, Q.run_pure, Option.some.injEq] at hr
        subst hr
        cases hc with
        | view hv hh hgle hV =>
          obtain ⟨u, hu⟩ := M.at_own hh hE hn
          refine ⟨freezeL pl L, (Out.freeze M hh hE hn m).weaken (fun _ _ => trivial), .d (.plain ?_)⟩
          exact viewPlain M.inj0 (fun B o hL => M.rows B pl o hh hL) hu (hV hg) hle
      · simp [hle] at hr
  | appd pl g aa sz rows =>
    simp only [st, Q.run_bind] at hr
    cases ho : (ownAt ws pl g sz).run S0 with
    | none => simp [ho] at hr
    | some e =>
      obtain ⟨e, x, old⟩ := e
      obtain ⟨rfl, hg, hE, hn⟩ := ownAt_run ho
      simp only [ho, Option.bind_some, Q.run_bind, Q.run_at, Q.run_guard] at hr
      cases hgd : ((S0.get (.a pl.k)).g == aa && fresh ws pl.k) with
      | false => simp [hgd] at hr
      | true =>
        simp only [hgd, if_true, Option.bind_some, Q.run_pure, Option.some.injEq] at hr
        subst hr
        simp only [Bool.and_eq_true, beq_iff_eq] at hgd
        obtain ⟨g1, g2, _⟩ := fresh_γ (S := S0) hgd.2
        cases hc with
        | appd hv hh hgle hale hV =>
          have hA := hV (by rw [g1]; exact hg) (by rw [g2]; exact hgd.1.symm)
          have O1 := Out.freeze M hh hE hn m
          generalize hws : setWr ws pl.k (((S0.wrs ws).E pl.k).setCell pl.j (.d (setD x pl.p (.sl (.im false) sz (plainRs old))))) = ws1 at *
          have hnu : ∀ {q : Place}, q.k.isPl = true → ¬ Under ⟨.h m, j, []⟩ q := by
            intro q hq hu; rw [hu.key.1] at hq; simp [Key.isPl] at hq
          have hst2 : Step w w (freezeL pl L) (freezeL ⟨.h m, j, []⟩ (freezeL pl L)) (S0.wrs ws1).γ (S0.wrs ws1).γ := by
            refine ⟨fun B hB => ⟨freezeL_imm hB, rfl⟩, fun _ => Nat.le_refl _, ?_, fun _ _ _ _ _ _ _ => rfl, fun B r o _ hB => freezeL_box.2 hB⟩
            intro B q o hq _ hL
            exact ⟨freezeL_row hL (hnu hq), fun cur e fz hB => ⟨cur, hB, rfl⟩⟩
          have M2 : Mid nm N S0 w0 L0 ws1 a w (freezeL ⟨.h m, j, []⟩ (freezeL pl L)) := by
            refine ⟨O1.mid.rel.turnH (fun B hB => freezeL_imm hB) (fun B q o hq hL => freezeL_row hL (hnu hq)) (fun B r o => freezeL_box) (fun B l hB => freezeL_dom hB) (freezeL_inj O1.mid.rel.rowInj), O1.mid.stp.trans hst2, O1.mid.mono.trans (freezeL_mono _), ?_, O1.mid.heap, O1.mid.inj0, fun B r o hB => freezeL_box.2 (O1.mid.boxes B r o hB)⟩
            intro B q o hq hL
            exact O1.mid.rows B q o hq (freezeL_row' hL).1
          refine ⟨_, ⟨M2, O1.stp.trans hst2, ?_, ?_⟩, ?_⟩
          · intro B q o hq hK hL
            exact freezeL_row (O1.keepH B q o hq trivial hL) (fun hu => hK hu.key)
          · intro B q o hq hqm hL
            exact O1.onlyH B q o hq hqm (freezeL_row' hL).1
          · refine .d (.plain ?_)
            rcases hA with ⟨rfl, a0, rfl⟩ | ⟨B, o, cap, cur, e, fz, n0, val, rfl, hsz, hL, hB, hfz, hlens, hcap, hroom, hval, hd, hu8⟩
            · simp only [plainRs]; exact .plE
            · have himm : freezeL ⟨.h m, j, []⟩ (freezeL pl L) B = some .imm := by
                rcases hL with hL | hL
                · exact freezeL_imm (freezeL_under hL (Under.refl _))
                · by_cases hu : Under pl ⟨.h m, j, []⟩
                  · exact freezeL_imm (freezeL_under hL hu)
                  · exact freezeL_under (freezeL_row hL hu) (Under.refl _)
              rw [← plainRs_length rows]
              cases hrows : rows with
              | nil => simp only [plainRs, List.length_nil]; exact .plE
              | cons r0 t0 =>
                rw [← hrows]
                refine .pl (cur := cur) (e := e) (fz := fz) val (by rw [hrows]; simp [plainRs]) hsz (by rw [plainRs_length]; exact hcap) himm hB ?_ ?_ ?_
                · intro r hr'
                  rw [plainRs_eq] at hr'
                  obtain ⟨r1, h1, rfl⟩ := List.mem_map.1 hr'
                  simpa using hlens r1 h1
                · intro i c x hx
                  rw [cellOf_plain] at hx
                  cases hy : cellOf rows i c with
                  | none => simp [hy] at hx
                  | some y => exact hval i c y hy
                · intro i c x hx
                  rw [cellOf_plain] at hx
                  cases hy : cellOf rows i c with
                  | none => simp [hy] at hx
                  | some y =>
                    simp only [hy, Option.map_some, Option.some.injEq] at hx
                    subst hx
                    refine RepD.freeze (fun q => Under pl q ∨ Under ⟨.h m, j, []⟩ q) (fun q i c h => Or.imp (fun h => h.sub i c) (fun h => h.sub i c) h) (fun B hB => ⟨freezeL_imm (freezeL_imm hB), rfl⟩) ?_ (hd i c y hy) ?_
                    · intro B q o hq hL
                      refine ⟨?_, rfl⟩
                      by_cases hq1 : Under pl q
                      · exact freezeL_imm (freezeL_under hL hq1)
                      · exact freezeL_under (freezeL_row hL hq1) (hq.resolve_left hq1)
                    · split
                      · exact .inl ((Under.refl pl).sub i c)
                      · exact .inr ((Under.refl _).sub i c)
  | eptr => simp [st] at hr
  | bld => simp [st] at hr
  | mp => simp [st] at hr
  | mref => simp [st] at hr
  | dead => simp [st] at hr
  | d x => exact triv _ rfl hc (by simp) hr
  | ptr r g c => exact triv _ rfl hc (by simp) hr
  | pp cells => exact triv _ rfl hc (by simp) hr
  | fn f b d => exact triv _ rfl hc (by simp) hr
  | nilp => exact triv _ rfl hc (by simp) hr
  | nilf => exact triv _ rfl hc (by simp) hr
  | nili => exact triv _ rfl hc (by simp) hr
  | ifc => exact triv _ rfl hc (by simp) hr
end
end
section
section
variable {nm : FuncId → Option Nat} {N : Nat} {S0 : St} {w0 : World} {L0 : LabF} {ws : List Wr} {a : Act} {w : World} {L : LabF}
theorem LimC.rep {γ0 γ : Key → Nat} (hs : Step w0 w L0 L γ0 γ) {m j : Nat} {c : C} {v : Value} (h : LimC nm w0 L0 γ0 w L γ m j c v) : RepC nm w L γ (.h m) j c v := by
  cases c with
  | view => exact RepC.stepClean hs h rfl _ _
  | _ => exact h
theorem LimV.rep {γ0 γ : Key → Nat} (hs : Step w0 w L0 L γ0 γ) {m : Nat} {x : V} {v : Value} (h : LimV nm w0 L0 γ0 w L γ m x v) : RepV nm w L γ (.h m) x v := by
  cases x with
  | one c => exact .one (LimC.rep hs h)
  | agg cs =>
    obtain ⟨vs, rfl, hl, hc⟩ := h
    exact .agg hl fun j c u h1 h2 => (hc j c u h1 h2).rep hs
  | tup vs => exact h
theorem stL_rep {m : Nat} : ∀ (cs : List C) {ws : List Wr} {L : LabF} (M : Mid nm N S0 w0 L0 ws a w L) (j0 : Nat) (vs : Nat → Value)
    (hc : ∀ j c, cs[j]? = some c → LimC nm w0 L0 S0.γ w L (S0.wrs ws).γ m (j0 + j) c (vs (j0 + j))) {r : List C × List Wr} (hr : (stL ws cs).run S0 = some r),
    ∃ L', Out nm N S0 w0 L0 ws r.2 a w L L' (fun q => ¬ (q.k = .h m ∧ j0 ≤ q.j)) m ∧ r.1.length = cs.length ∧
      ∀ j c, r.1[j]? = some c → RepC nm w L' (S0.wrs r.2).γ (.h m) (j0 + j) c (vs (j0 + j))
  | [], ws, L, M, j0, vs, hc, r, hr => by
    simp only [stL, Q.run_pure, Option.some.injEq] at hr
    subst hr
    exact ⟨L, Out.refl M _ m, rfl, fun j c h => by simp at h⟩
  | c :: cs, ws, L, M, j0, vs, hc, r, hr => by
    simp only [stL, Q.run_bind] at hr
    cases h1 : (st ws c).run S0 with
    | none => simp [h1] at hr
    | some r1 =>
      obtain ⟨c1, ws1⟩ := r1
      simp only [h1, Option.bind_some, Q.run_bind] at hr
      cases h2 : (stL ws1 cs).run S0 with
      | none => simp [h2] at hr
      | some r2 =>
        obtain ⟨cs2, ws2⟩ := r2
        simp only [h2, Option.bind_some, Q.run_pure, Option.some.injEq] at hr
        subst hr
        obtain ⟨L1, O1, R1⟩ := st_rep M (by simpa using hc 0 c rfl) h1
        obtain ⟨L2, O2, hl, R2⟩ := stL_rep cs O1.mid (j0 + 1) vs (fun j c h => by
          have := hc (j + 1) c (by simpa using h)
          have := this.keep O1.keep (fun p => by simp)
          rwa [show j0 + 1 + j = j0 + (j + 1) by omega]) h2
        refine ⟨L2, (O1.weaken ?_).trans (O2.weaken ?_), by simp [hl], ?_⟩
        · intro q hq h; exact hq ⟨h.1, by omega⟩
        · intro q hq h; exact hq ⟨h.1, by omega⟩
        · intro j c hj
          cases j with
          | zero =>
            simp only [List.getElem?_cons_zero, Option.some.injEq] at hj
            subst hj
            exact R1.keep O2.keep (fun p => by simp)
          | succ j =>
            have := R2 j c (by simpa using hj)
            rwa [show j0 + 1 + j = j0 + (j + 1) by omega] at this
structure Done (nm : FuncId → Option Nat) (N : Nat) (S : St) (w0 : World) (L0 : LabF) (a : Act) (w : World) (L : LabF) : Prop where
  rel : Rel nm N S a w L
  mono : Mono w0 w L0 L
  noH : NoH L
theorem Mid.done (M : Mid nm N S0 w0 L0 ws a w L) {m d : Nat} {x : V} {v : Value} (hd : d < N) (hv : RepV nm w L (S0.wrs ws).γ (.h m) x v) :
    ∃ L', Done nm N (S0.wrs ({ k := .s d, v := x } :: ws)) w0 L0 (a.put (some d) v) w L' := by
  obtain ⟨L', h1, h2, h3, _⟩ := M.rel.slotPut hd hv
  exact ⟨L', h1, M.mono.trans h3, h2⟩
end
end
end Go.Abs
