/- Steps that turn memory. -/
import Derived.Test.YtjndnconlakjkaaAbsMid3
import Derived.Laws.IdiomCopy
import Derived.Laws.AppendOwn
set_option linter.unusedVariables false
set_option linter.unusedSimpArgs false
namespace Go.Abs
section
variable {nm : FuncId → Option Nat} {N : Nat} {S0 : St} {w0 : World} {L0 : LabF} {ws : List Wr} {a : Act} {w : World} {L : LabF}

/-- What was under way comes to a place. -/
def toPl (k : Key) (m j : Nat) : Place → Option Place := fun q =>
  if q.k = .h m ∧ q.j = j then some ⟨k, 0, q.p⟩ else if q.k = k then none else some q

theorem toPl_fix {k : Key} {m j : Nat} {q : Place} (h1 : ¬ (q.k = .h m ∧ q.j = j)) (h2 : q.k ≠ k) : toPl k m j q = some q := by
  simp only [toPl]; rw [if_neg h1, if_neg h2]
theorem toPl_mov {k : Key} {m j : Nat} {q : Place} (h1 : q.k = .h m ∧ q.j = j) : toPl k m j q = some ⟨k, 0, q.p⟩ := by
  simp only [toPl]; rw [if_pos h1]
theorem toPl_back {k : Key} {m j : Nat} {q t : Place} (h : toPl k m j q = some t) (h2 : t.k ≠ k) : q = t ∧ ¬ (q.k = .h m ∧ q.j = j) := by
  simp only [toPl] at h
  split at h
  · simp only [Option.some.injEq] at h; exact absurd (by rw [← h]) h2
  · rename_i h1
    split at h
    · cases h
    · simp only [Option.some.injEq] at h; exact ⟨h, h1⟩
theorem toPl_inj {k : Key} {m j : Nat} {q q' t : Place} (h1 : toPl k m j q = some t) (h2 : toPl k m j q' = some t) : q = q' := by
  simp only [toPl] at h1 h2
  split at h1
  · rename_i a1
    simp only [Option.some.injEq] at h1
    split at h2
    · rename_i a2
      simp only [Option.some.injEq] at h2
      rw [← h1] at h2
      simp only [Place.mk.injEq, true_and] at h2
      cases q; cases q'; simp_all
    · split at h2
      · cases h2
      · rename_i a3
        simp only [Option.some.injEq] at h2
        exact absurd (by rw [h2, ← h1]) a3
  · split at h1
    · cases h1
    · rename_i a3
      simp only [Option.some.injEq] at h1
      split at h2
      · simp only [Option.some.injEq] at h2
        exact absurd (by rw [h1, ← h2]) a3
      · split at h2
        · cases h2
        · simp only [Option.some.injEq] at h2; rw [h1, h2]

/-- One cell of a box is written. -/
theorem Rel.boxSet {S : St} (h : Rel nm N S a w L) {m j : Nat} {r : Root} {B o c : Nat} {x : C} {v : Value} (hB : L B = some (.box r o)) (hc : c < boxN (S.E (.r r)))
    (hr : r.isG = false) (hx : RepC nm w L S.γ (.h m) j x v) :
    ∃ L', Rel nm N (S.wr { k := .b r c, v := .one x }) a (w.setCell ⟨B, o + c, none⟩ v) L' ∧
      Keep w (w.setCell ⟨B, o + c, none⟩ v) L L' S.γ (S.wr { k := .b r c, v := .one x }).γ (fun q => ¬ (q.k = .h m ∧ q.j = j)) ∧
      Mono w (w.setCell ⟨B, o + c, none⟩ v) L L' ∧ L' B = some (.box r o) ∧ (∀ B q o, q.k.isPl = false → L' B = some (.row q o) → L B = some (.row q o)) := by
  obtain ⟨B', o', cur, e, fz, h1, h2, h3, h4⟩ := h.room r hr (by omega)
  obtain rfl := h.boxInj B' B r o' o h1 hB
  obtain rfl : o' = o := by rw [h1] at hB; simpa using hB
  have hne : ∀ {B2 l}, L B2 = some l → (∀ r o, l ≠ .box r o) → (w.setCell ⟨B', o' + c, none⟩ v).heap[B2]? = w.heap[B2]? := by
    intro B2 l hl hnb
    refine heap_setCell_ne _ _ _ _ ?_
    rintro rfl
    rw [hB] at hl
    simp only [Option.some.injEq] at hl
    exact hnb _ _ hl.symm
  have hplfix : ∀ {q : Place}, q.k.isPl = true → q.k ≠ .b r c → toPl (.b r c) m j q = some q := fun hq hk =>
    toPl_fix (fun h => by rw [h.1] at hq; simp [Key.isPl] at hq) hk
  have hst : Step w (w.setCell ⟨B', o' + c, none⟩ v) L (relab (toPl (.b r c) m j) L) S.γ (S.wr { k := .b r c, v := .one x }).γ := by
    refine ⟨fun B hB => ⟨relab_imm.2 hB, hne hB (by simp)⟩, S.γ_wr_le _, ?_, fun B q o _ _ _ hB => hne hB (by simp), fun B r o _ hB => relab_box.2 hB⟩
    intro B q o hq hγ hL
    rw [γ_bump] at hγ
    exact ⟨relab_of_row hL (hplfix hq (bump_ne hγ)), fun cur e fz hB => ⟨cur, (hne hL (by simp)).trans hB, rfl⟩⟩
  refine ⟨relab (toPl (.b r c) m j) L, ?_, ⟨hst, ?_⟩, ?_, relab_box.2 hB, ?_⟩
  · refine h.write { k := .b r c, v := .one x } rfl h.defers (fun _ _ => rfl) hst ?_ ?_ ?_ ?_ ?_ ?_
    · intro B q o hq hqp hL
      exact ⟨relab_of_row hL (hplfix hqp hq), hne hL (by simp)⟩
    · intro B2 r2 o2 _ hL
      refine ⟨relab_box.2 hL, fun cur2 e2 fz2 hB2 => ?_⟩
      by_cases he : B2 = B'
      · subst he
        rw [hB] at hL
        simp only [Option.some.injEq, Lab.box.injEq] at hL
        obtain ⟨rfl, rfl⟩ := hL
        refine ⟨cur2.setIfInBounds (o' + c) v, heap_setCell_eq w B2 _ v hB2, by simp, ?_⟩
        intro c' hc'
        rw [Array.getElem?_setIfInBounds_ne]
        intro e; exact hc' (by rw [show c = c' by omega])
      · exact ⟨cur2, (heap_setCell_ne _ _ _ _ he).trans hB2, rfl, fun _ _ => rfl⟩
    · refine ⟨x, rfl, fun hxd => ⟨hc, ?_⟩⟩
      have hrep : RepC nm (w.setCell ⟨B', o' + c, none⟩ v) (relab (toPl (.b r c) m j) L) (S.wr { k := .b r c, v := .one x }).γ (.b r c) 0 x v := by
        refine hx.step hst ?_
        intro B q o h1 h2 hL
        exact ⟨relab_of_row hL (toPl_mov ⟨h1, h2⟩), hne hL (by simp)⟩
      have hex : ∃ B o cur e fz v', relab (toPl (.b r c) m j) L B = some (.box r o) ∧ (w.setCell ⟨B', o' + c, none⟩ v).heap[B]? = some (.cells cur e fz) ∧ unfroz cur.size fz ∧ cur[o + c]? = some v' ∧
          RepC nm (w.setCell ⟨B', o' + c, none⟩ v) (relab (toPl (.b r c) m j) L) (S.wr { k := .b r c, v := .one x }).γ (.b r c) 0 x v' := by
        refine ⟨B', o', _, e, fz, v, relab_box.2 hB, heap_setCell_eq w B' _ v h2, by simpa using h3, ?_, hrep⟩
        simp only [Array.getElem?_setIfInBounds, if_true]
        rw [if_pos (by omega)]
      cases r with
      | g i => exact ⟨v, hrep⟩
      | e i => exact hex
      | l i => exact hex
    · intro B2 l hl
      obtain ⟨l0, h0⟩ := relab_dom hl
      obtain ⟨cur2, e2, fz2, hB2⟩ := h.dom B2 l0 h0
      by_cases he : B2 = B'
      · subst he; exact ⟨_, e2, fz2, heap_setCell_eq w B2 _ v hB2⟩
      · exact ⟨cur2, e2, fz2, (heap_setCell_ne _ _ _ _ he).trans hB2⟩
    · exact relab_inj h.rowInj (fun q q' t B B' o o' h1 h2 _ _ => toPl_inj h1 h2)
    · intro B1 B2 r1 o1 o2 g1 g2
      exact h.boxInj B1 B2 r1 o1 o2 (relab_box.1 g1) (relab_box.1 g2)
  · intro B q o hq hK hL
    refine ⟨relab_of_row hL (toPl_fix hK (fun e => ?_)), hne hL (by simp)⟩
    rw [e] at hq; simp [Key.isPl] at hq
  · refine ⟨rfl, rfl, rfl, by simp, fun B hB => ⟨relab_imm.2 hB, hne hB (by simp)⟩, ?_, fun B i o hB => relab_box.2 hB⟩
    intro B2 _ hn
    refine ⟨relab_none hn, heap_setCell_ne _ _ _ _ ?_⟩
    rintro rfl
    rw [hB] at hn; cases hn
  · intro B2 q o hq hL
    obtain ⟨q0, g1, g2⟩ := relab_row hL
    have := (toPl_back g2 (fun e => by rw [e] at hq; simp [Key.isPl] at hq)).1
    rwa [this] at g1

theorem Keep.trans {w1 w2 w3 : World} {L1 L2 L3 : LabF} {γ1 γ2 γ3 : Key → Nat} {K : Place → Prop} (h : Keep w1 w2 L1 L2 γ1 γ2 K) (k : Keep w2 w3 L2 L3 γ2 γ3 K) : Keep w1 w3 L1 L3 γ1 γ3 K :=
  ⟨h.stp.trans k.stp, fun B q o h1 h2 h3 => ⟨(k.h B q o h1 h2 (h.h B q o h1 h2 h3).1).1, (k.h B q o h1 h2 (h.h B q o h1 h2 h3).1).2.trans (h.h B q o h1 h2 h3).2⟩⟩
theorem Keep.weaken {w1 w2 : World} {L1 L2 : LabF} {γ1 γ2 : Key → Nat} {K K' : Place → Prop} (h : Keep w1 w2 L1 L2 γ1 γ2 K) (hK : ∀ q, K' q → K q) : Keep w1 w2 L1 L2 γ1 γ2 K' :=
  ⟨h.stp, fun B q o h1 h2 h3 => h.h B q o h1 (hK q h2) h3⟩

/-- Cells of a box are written, one behind the other. -/
theorem Rel.boxSets {m : Nat} {r : Root} (hr : r.isG = false) {B o : Nat} : ∀ (cs : List C) (vs : List Value) (j0 c0 : Nat) {S : St} {ws : List Wr} {w : World} {L : LabF} (h : Rel nm N (S.wrs ws) a w L)
    (hB : L B = some (.box r o)) (hl : cs.length = vs.length) (hc : c0 + cs.length ≤ boxN ((S.wrs ws).E (.r r)))
    (hx : ∀ j x v, cs[j]? = some x → vs[j]? = some v → RepC nm w L (S.wrs ws).γ (.h m) (j0 + j) x v),
    ∃ L', Rel nm N (S.wrs (cellWrs r c0 cs ws)) a (w.setCells B (o + c0) vs) L' ∧ Mono w (w.setCells B (o + c0) vs) L L' ∧ L' B = some (.box r o) ∧
      (∀ B q o, q.k.isPl = false → L' B = some (.row q o) → L B = some (.row q o))
  | [], vs, j0, c0, S, ws, w, L, h, hB, hl, hc, hx => by
    have : vs = [] := by simpa using hl.symm
    subst this
    exact ⟨L, h, Mono.refl _ _, hB, fun _ _ _ _ h => h⟩
  | x :: cs, [], j0, c0, S, ws, w, L, h, hB, hl, hc, hx => by simp at hl
  | x :: cs, v :: vs, j0, c0, S, ws, w, L, h, hB, hl, hc, hx => by
    simp only [List.length_cons] at hc hl
    obtain ⟨L1, h1, k1, m1, b1, f1⟩ := h.boxSet hB (c := c0) (by omega) hr (hx 0 x v rfl rfl)
    have hE : ((S.wrs ({ k := .b r c0, v := .one x } :: ws)).E (.r r)) = (S.wrs ws).E (.r r) := by
      simp only [St.wrs, St.E_wr]; simp
    obtain ⟨L2, h2, m2, b2, f2⟩ := Rel.boxSets hr cs vs (j0 + 1) (c0 + 1) (S := S) (ws := { k := .b r c0, v := .one x } :: ws) h1 b1 (by omega) (by rw [hE]; omega) (by
      intro j y u hy hu
      have := (hx (j + 1) y u (by simpa using hy) (by simpa using hu)).keep k1 (fun p => by simp)
      rwa [show j0 + 1 + j = j0 + (j + 1) by omega])
    refine ⟨L2, h2, m1.trans m2, b2, fun B q o hq hL => f1 B q o hq (f2 B q o hq hL)⟩

theorem cellWrs_E (S : St) (r : Root) : ∀ (cs : List C) (c0 : Nat) (ws : List Wr) (k : Key),
    (∀ c x, k = .b r (c0 + c) → cs[c]? = some x → (S.wrs (cellWrs r c0 cs ws)).E k = .one x) ∧
    ((∀ c, c < cs.length → k ≠ .b r (c0 + c)) → (S.wrs (cellWrs r c0 cs ws)).E k = (S.wrs ws).E k ∧ (S.wrs (cellWrs r c0 cs ws)).γ k = (S.wrs ws).γ k) ∧
    (∀ c, c < cs.length → k = .b r (c0 + c) → (S.wrs ws).γ k < (S.wrs (cellWrs r c0 cs ws)).γ k) ∧ (S.wrs ws).γ k ≤ (S.wrs (cellWrs r c0 cs ws)).γ k
  | [], c0, ws, k => ⟨fun c x _ h => by simp at h, fun _ => ⟨rfl, rfl⟩, fun c h => by simp at h, Nat.le_refl _⟩
  | x :: cs, c0, ws, k => by
    obtain ⟨h1, h2, h3, h4⟩ := cellWrs_E S r cs (c0 + 1) ({ k := .b r c0, v := .one x } :: ws) k
    have hle : (S.wrs ws).γ k ≤ (S.wrs ({ k := .b r c0, v := .one x } :: ws)).γ k := St.γ_wr_le _ _ k
    simp only [cellWrs]
    refine ⟨?_, ?_, ?_, Nat.le_trans hle h4⟩
    · intro c y hk hy
      cases c with
      | zero =>
        simp only [List.getElem?_cons_zero, Option.some.injEq] at hy
        subst hy
        rw [(h2 (fun c' _ e => by rw [hk] at e; simp only [Key.b.injEq, true_and] at e; omega)).1]
        simp only [St.wrs, St.E_wr, hk, Nat.add_zero, if_true]
      | succ c => exact h1 c y (by rw [hk, show c0 + (c + 1) = c0 + 1 + c by omega]) (by simpa using hy)
    · intro hne
      obtain ⟨g1, g2⟩ := h2 (fun c hc e => hne (c + 1) (by simpa using hc) (by rw [e, show c0 + (c + 1) = c0 + 1 + c by omega]))
      have h0 : (Key.b r c0) ≠ k := fun e => hne 0 (by simp) (by rw [← e]; rfl)
      rw [g1, g2]
      simp only [St.wrs, St.E_wr, St.γ_wr, h0, if_false]
      trivial
    · intro c hc hk
      cases c with
      | zero =>
        refine Nat.lt_of_lt_of_le ?_ h4
        simp only [St.wrs, St.γ_wr, hk, Nat.add_zero, if_true]
        simp
      | succ c =>
        exact Nat.lt_of_le_of_lt hle (h3 c (by simpa using hc) (by rw [hk, show c0 + (c + 1) = c0 + 1 + c by omega]))

/-- What was under way becomes a box. -/
def toBox (r : Root) (n m : Nat) : Place → Option Place := fun q =>
  if q.k = .h m then (if q.j < n then some ⟨.b r q.j, 0, q.p⟩ else none)
  else match q.k with
    | .b r' c => if r' = r ∧ c < n then none else some q
    | .s _ => some q
    | _ => none

theorem toBox_back {r : Root} {n m : Nat} {q t : Place} (h : toBox r n m q = some t) : (q.k = .h m ∧ q.j < n ∧ t = ⟨.b r q.j, 0, q.p⟩) ∨ (q.k.isPl = true ∧ t = q ∧ ∀ c, c < n → q.k ≠ .b r c) := by
  unfold toBox at h
  split at h
  · rename_i h1
    split at h
    · rename_i h2
      simp only [Option.some.injEq] at h
      exact .inl ⟨h1, h2, h.symm⟩
    · cases h
  · rename_i h1
    split at h
    · rename_i r' c hk
      split at h
      · cases h
      · rename_i h2
        simp only [Option.some.injEq] at h
        refine .inr ⟨by rw [hk]; rfl, h.symm, ?_⟩
        intro c' hc' e
        rw [hk] at e
        simp only [Key.b.injEq] at e
        exact h2 ⟨e.1, by omega⟩
    · rename_i i hk
      simp only [Option.some.injEq] at h
      exact .inr ⟨by rw [hk]; rfl, h.symm, fun c _ e => by rw [hk] at e; cases e⟩
    · cases h
theorem toBox_fix {r : Root} {n m : Nat} {q : Place} (h : q.k.isPl = true) (hn : ∀ c, c < n → q.k ≠ .b r c) : toBox r n m q = some q := by
  unfold toBox
  rw [if_neg (fun e => by rw [e] at h; simp [Key.isPl] at h)]
  obtain ⟨k, i, p⟩ := q
  cases k with
  | s i => rfl
  | b r' c =>
    simp only
    rw [if_neg]
    rintro ⟨rfl, hc⟩
    exact hn c hc rfl
  | _ => simp [Key.isPl] at h
theorem toBox_mov {r : Root} {n m : Nat} {q : Place} (h : q.k = .h m) (hj : q.j < n) : toBox r n m q = some ⟨.b r q.j, 0, q.p⟩ := by
  unfold toBox; rw [if_pos h, if_pos hj]

/-- The labels behind a new box. -/
def boxL (r : Root) (n m : Nat) (w : World) (L : LabF) : LabF := fun B =>
  if B = w.heap.size then some (.box r 0) else
  match L B with
  | some (.box r' o) => if r' = r then none else some (.box r' o)
  | _ => relab (toBox r n m) L B

theorem boxL_new {r : Root} {n m : Nat} : boxL r n m w L w.heap.size = some (.box r 0) := by simp [boxL]
theorem boxL_row {r : Root} {n m B o : Nat} {q q' : Place} (hne : B ≠ w.heap.size) (h : L B = some (.row q o)) (hf : toBox r n m q = some q') : boxL r n m w L B = some (.row q' o) := by
  unfold boxL; rw [if_neg hne]; simp only [h]; exact relab_of_row h hf
theorem boxL_imm {r : Root} {n m B : Nat} (hne : B ≠ w.heap.size) (h : L B = some .imm) : boxL r n m w L B = some .imm := by
  unfold boxL; rw [if_neg hne]; simp only [h]; exact relab_imm.2 h
theorem boxL_none {r : Root} {n m B : Nat} (hne : B ≠ w.heap.size) (h : L B = none) : boxL r n m w L B = none := by
  unfold boxL; rw [if_neg hne]; simp only [h]; exact relab_none h
theorem boxL_box {r : Root} {n m B o : Nat} {r' : Root} (hne : B ≠ w.heap.size) (h : L B = some (.box r' o)) (hr : r' ≠ r) : boxL r n m w L B = some (.box r' o) := by
  unfold boxL; rw [if_neg hne]; simp only [h, hr, if_false]
theorem boxL_back {r : Root} {n m B : Nat} {l : Lab} (h : boxL r n m w L B = some l) : (B = w.heap.size ∧ l = .box r 0) ∨
    (B ≠ w.heap.size ∧ ((l = .imm ∧ L B = some .imm) ∨ (∃ r' o, l = .box r' o ∧ r' ≠ r ∧ L B = some (.box r' o)) ∨ ∃ q q' o, l = .row q' o ∧ L B = some (.row q o) ∧ toBox r n m q = some q')) := by
  unfold boxL at h
  split at h
  · rename_i he
    simp only [Option.some.injEq] at h
    exact .inl ⟨he, h.symm⟩
  · rename_i he
    refine .inr ⟨he, ?_⟩
    split at h
    · rename_i r' o hL
      split at h
      · cases h
      · rename_i hr
        simp only [Option.some.injEq] at h
        exact .inr (.inl ⟨r', o, h.symm, hr, hL⟩)
    · rename_i hnb
      cases l with
      | imm => exact .inl ⟨rfl, relab_imm.1 h⟩
      | row q o => obtain ⟨q0, g1, g2⟩ := relab_row h; exact .inr (.inr ⟨q0, q, o, rfl, g1, g2⟩)
      | box r' o => exact absurd (relab_box.1 h) (hnb r' o)

theorem boxN_sizeV (n : Nat) : boxN (sizeV n) = n := by simp [boxN, sizeV]

/-- A new box. -/
theorem Rel.newBox {S : St} {ws : List Wr} (h : Rel nm N (S.wrs ws) a w L) {m : Nat} {r : Root} {cs : List C} {vs : Array Value} {e : TypeId} (hr : r.isG = false) (hre : ∀ i, r ≠ .e i)
    (hl : cs.length = vs.size) (hn : boxN ((S.wrs ws).E (.r r)) = 0 ∨ boxN ((S.wrs ws).E (.r r)) = cs.length)
    (hx : ∀ (j : Nat) x v, cs[j]? = some x → vs[j]? = some v → RepC nm w L (S.wrs ws).γ (.h m) j x v) :
    Rel nm N (S.wrs (cellWrs r 0 cs ({ k := .r r, v := sizeV cs.length } :: ws))) a (w.alloc (.cells vs e)) (boxL r cs.length m w L) ∧
      Mono w (w.alloc (.cells vs e)) L (boxL r cs.length m w L) ∧ NoH (boxL r cs.length m w L) := by
  have hnew := h.dom.new
  have hlt : ∀ {B l}, L B = some l → B ≠ w.heap.size := fun {B l} hB e => by rw [e, hnew] at hB; cases hB
  have hheap : ∀ {B l}, L B = some l → (w.alloc (.cells vs e)).heap[B]? = w.heap[B]? := fun hB => heap_alloc_lt w _ (hlt hB)
  have hw := fun k => cellWrs_E S r cs 0 ({ k := .r r, v := sizeV cs.length } :: ws) k
  have hEr : ∀ r', (S.wrs (cellWrs r 0 cs ({ k := .r r, v := sizeV cs.length } :: ws))).E (.r r') = if r = r' then sizeV cs.length else (S.wrs ws).E (.r r') := by
    intro r'
    rw [((hw (.r r')).2.1 (fun c _ e => by cases e)).1]
    simp only [St.wrs, St.E_wr, Key.r.injEq]
  have hEs : ∀ i, (S.wrs (cellWrs r 0 cs ({ k := .r r, v := sizeV cs.length } :: ws))).E (.s i) = (S.wrs ws).E (.s i) := by
    intro i
    rw [((hw (.s i)).2.1 (fun c _ e => by cases e)).1]
    simp [St.wrs, St.E_wr]
  have hEb : ∀ r' c, (r' ≠ r ∨ cs.length ≤ c) → (S.wrs (cellWrs r 0 cs ({ k := .r r, v := sizeV cs.length } :: ws))).E (.b r' c) = (S.wrs ws).E (.b r' c) := by
    intro r' c hc
    rw [((hw (.b r' c)).2.1 (fun c' h1 e => by simp only [Key.b.injEq] at e; rcases hc with hc | hc; exact hc e.1; omega)).1]
    simp [St.wrs, St.E_wr]
  have hγle : ∀ k, (S.wrs ws).γ k ≤ (S.wrs (cellWrs r 0 cs ({ k := .r r, v := sizeV cs.length } :: ws))).γ k := fun k =>
    Nat.le_trans (St.γ_wr_le (S.wrs ws) { k := .r r, v := sizeV cs.length } k) (hw k).2.2.2
  have hγb : ∀ c, c < cs.length → (S.wrs ws).γ (.b r c) < (S.wrs (cellWrs r 0 cs ({ k := .r r, v := sizeV cs.length } :: ws))).γ (.b r c) := fun c hc =>
    Nat.lt_of_le_of_lt (St.γ_wr_le (S.wrs ws) { k := .r r, v := sizeV cs.length } (.b r c)) ((hw (.b r c)).2.2.1 c hc (by simp))
  have hγr : (S.wrs ws).γ (.r r) < (S.wrs (cellWrs r 0 cs ({ k := .r r, v := sizeV cs.length } :: ws))).γ (.r r) := by
    refine Nat.lt_of_lt_of_le ?_ (hw (.r r)).2.2.2
    simp only [St.wrs, St.γ_wr, if_true]
    simp
  have hst : Step w (w.alloc (.cells vs e)) L (boxL r cs.length m w L) (S.wrs ws).γ (S.wrs (cellWrs r 0 cs ({ k := .r r, v := sizeV cs.length } :: ws))).γ := by
    refine ⟨fun B hB => ⟨boxL_imm (hlt hB) hB, hheap hB⟩, hγle, ?_, fun B q o _ _ _ hB => hheap hB, ?_⟩
    · intro B q o hq hγ hL
      refine ⟨boxL_row (hlt hL) hL (toBox_fix hq ?_), fun cur e fz hc => ⟨cur, (hheap hL).trans hc, rfl⟩⟩
      intro c hc e
      rw [e] at hγ
      exact absurd hγ (Nat.ne_of_gt (hγb c hc))
    · intro B r' o hγ hL
      refine boxL_box (hlt hL) hL ?_
      rintro rfl
      exact absurd hγ (Nat.ne_of_gt hγr)
  refine ⟨⟨h.size, h.defers, ?_, ?_, ?_, ?_, ?_, ?_, ?_, ?_⟩, ?_, ?_⟩
  · intro i
    rw [hEs]
    refine (h.slot i).step hst ?_
    intro B q o hq hL
    refine ⟨?_, hheap hL⟩
    rw [← hq, Place.at_self]
    exact boxL_row (hlt hL) hL (toBox_fix (by rw [hq]; rfl) (fun c _ e => by rw [hq] at e; cases e))
  · intro r' c x hE hxd
    by_cases hc : r' = r ∧ c < cs.length
    · obtain ⟨rfl, hc⟩ := hc
      have hx0 := (hw (.b r' c)).1 c cs[c] (by simp) (by simp [hc])
      rw [hE] at hx0
      simp only [V.one.injEq] at hx0
      have hrep : RepC nm (w.alloc (.cells vs e)) (boxL r' cs.length m w L) (S.wrs (cellWrs r' 0 cs ({ k := .r r', v := sizeV cs.length } :: ws))).γ (.b r' c) 0 x (vs[c]'(by omega)) := by
        refine (hx c x vs[c] (by rw [hx0]; simp [hc]) (by simp [← hl, hc])).step hst ?_
        intro B q o h1 h2 hL
        refine ⟨?_, hheap hL⟩
        have := boxL_row (hlt hL) hL (toBox_mov (r := r') (n := cs.length) h1 (by rw [h2]; exact hc))
        rwa [h2] at this
      have hex : ∃ B o cur e' fz v', boxL r' cs.length m w L B = some (.box r' o) ∧ (w.alloc (.cells vs e)).heap[B]? = some (.cells cur e' fz) ∧ unfroz cur.size fz ∧ cur[o + c]? = some v' ∧
          RepC nm (w.alloc (.cells vs e)) (boxL r' cs.length m w L) (S.wrs (cellWrs r' 0 cs ({ k := .r r', v := sizeV cs.length } :: ws))).γ (.b r' c) 0 x v' :=
        ⟨w.heap.size, 0, vs, e, (0, 0), _, boxL_new, heap_alloc_self w _, fun j _ => by simp, by simp [← hl, hc], hrep⟩
      cases r' with
      | g i => simp [Root.isG] at hr
      | e i => exact hex
      | l i => exact hex
    · rw [hEb r' c (by by_cases h1 : r' = r <;> simp_all)] at hE
      by_cases hrr : r' = r
      · subst hrr
        have hcl : cs.length ≤ c := by simpa using hc
        have := h.bound r' c (by rcases hn with hn | hn <;> rw [hn] <;> omega)
        rw [this] at hE
        simp only [V.one.injEq] at hE
        exact absurd hE.symm hxd
      · refine (h.cell r' c x hE hxd).step hst ?_ ?_
        · intro B q o hq hL
          exact ⟨boxL_row (hlt hL) hL (toBox_fix (by rw [hq]; rfl) (fun c' _ e => by rw [hq] at e; simp only [Key.b.injEq] at e; exact hrr e.1)), hheap hL⟩
        · intro B o hL
          exact ⟨boxL_box (hlt hL) hL hrr, fun cur e fz hc => ⟨cur, (hheap hL).trans hc, rfl, rfl⟩⟩
  · intro r' c
    by_cases hc : r' = r ∧ c < cs.length
    · obtain ⟨rfl, hc⟩ := hc
      exact ⟨cs[c], (hw (.b r' c)).1 c cs[c] (by simp) (by simp [hc])⟩
    · rw [hEb r' c (by by_cases h1 : r' = r <;> simp_all)]
      exact h.bone r' c
  · intro r' c hc
    rw [hEr] at hc
    by_cases hrr : r = r'
    · subst hrr
      simp only [if_true, boxN_sizeV] at hc
      rw [hEb r c (.inr hc)]
      exact h.bound r c (by rcases hn with hn | hn <;> rw [hn] <;> omega)
    · rw [if_neg hrr] at hc
      rw [hEb r' c (.inl (fun e => hrr e.symm))]
      exact h.bound r' c hc
  · intro r' hg hb
    rw [hEr] at hb ⊢
    by_cases hrr : r = r'
    · subst hrr
      simp only [if_true, boxN_sizeV] at hb ⊢
      exact ⟨w.heap.size, 0, vs, e, (0, 0), boxL_new, heap_alloc_self w _, fun j _ => by simp, by omega⟩
    · rw [if_neg hrr] at hb ⊢
      obtain ⟨B, o, cur, e', fz, h1, h2, h3, h4⟩ := h.room r' hg hb
      exact ⟨B, o, cur, e', fz, boxL_box (hlt h1) h1 (fun e => hrr e.symm), (hheap h1).trans h2, h3, h4⟩
  · intro B l hB
    rcases boxL_back hB with ⟨rfl, _⟩ | ⟨hne, hB'⟩
    · exact ⟨vs, e, (0, 0), heap_alloc_self w _⟩
    · rw [heap_alloc_lt w _ hne]
      rcases hB' with ⟨_, h1⟩ | ⟨r', o, _, _, h1⟩ | ⟨q, q', o, _, h1, _⟩ <;> exact h.dom B _ h1
  · intro B B' pl o o' h1 h2
    rcases boxL_back h1 with ⟨_, he⟩ | ⟨_, ⟨he, _⟩ | ⟨_, _, he, _⟩ | ⟨q, t, o1, he, g1, g2⟩⟩
    · cases he
    · cases he
    · cases he
    rcases boxL_back h2 with ⟨_, he'⟩ | ⟨_, ⟨he', _⟩ | ⟨_, _, he', _⟩ | ⟨q', t', o1', he', g1', g2'⟩⟩
    · cases he'
    · cases he'
    · cases he'
    simp only [Lab.row.injEq] at he he'
    obtain ⟨rfl, rfl⟩ := he
    obtain ⟨rfl, rfl⟩ := he'
    have : q = q' := by
      rcases toBox_back g2 with ⟨a1, a4, a2⟩ | ⟨a1, a2, a3⟩ <;> rcases toBox_back g2' with ⟨b1, b4, b2⟩ | ⟨b1, b2, b3⟩
      · rw [a2] at b2
        simp only [Place.mk.injEq, Key.b.injEq, true_and] at b2
        cases q; cases q'; simp_all
      · exact absurd (by rw [← b2, a2]) (b3 q.j a4)
      · exact absurd (by rw [← a2, b2]) (a3 q'.j b4)
      · rw [← a2, ← b2]
    subst this
    exact h.rowInj B B' q o o' g1 g1'
  · intro B B' r' o o' h1 h2
    rcases boxL_back h1 with ⟨rfl, he⟩ | ⟨_, ⟨he, _⟩ | ⟨r1, o1, he, hr1, g1⟩ | ⟨q, t, o1, he, g1, g2⟩⟩
    · simp only [Lab.box.injEq] at he
      rcases boxL_back h2 with ⟨rfl, he'⟩ | ⟨_, ⟨he', _⟩ | ⟨r1', o1', he', hr1', g1'⟩ | ⟨q', t', o1', he', g1', g2'⟩⟩
      · rfl
      · cases he'
      · simp only [Lab.box.injEq] at he'
        exact absurd (he'.1.symm.trans he.1) hr1'
      · cases he'
    · cases he
    · simp only [Lab.box.injEq] at he
      rcases boxL_back h2 with ⟨rfl, he'⟩ | ⟨_, ⟨he', _⟩ | ⟨r1', o1', he', hr1', g1'⟩ | ⟨q', t', o1', he', g1', g2'⟩⟩
      · simp only [Lab.box.injEq] at he'
        exact absurd (he.1.symm.trans he'.1) hr1
      · cases he'
      · simp only [Lab.box.injEq] at he'
        rw [← he.1] at g1
        rw [← he'.1] at g1'
        exact h.boxInj B B' r' o1 o1' g1 g1'
      · cases he'
    · cases he
  · refine ⟨rfl, rfl, rfl, by simp, fun B hB => ⟨boxL_imm (hlt hB) hB, hheap hB⟩, ?_, fun B i o hB => boxL_box (hlt hB) hB (fun e => hre i e.symm)⟩
    intro B hlt' hB
    have hne : B ≠ w.heap.size := by omega
    exact ⟨boxL_none hne hB, heap_alloc_lt w _ hne⟩
  · intro B q o hB
    rcases boxL_back hB with ⟨_, he⟩ | ⟨_, ⟨he, _⟩ | ⟨_, _, he, _⟩ | ⟨q0, t, o1, he, g1, g2⟩⟩
    · cases he
    · cases he
    · cases he
    · simp only [Lab.row.injEq] at he
      obtain ⟨rfl, rfl⟩ := he
      rcases toBox_back g2 with ⟨_, _, rfl⟩ | ⟨h1, rfl, _⟩
      · rfl
      · exact h1
end
end Go.Abs
