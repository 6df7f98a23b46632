/- Operations that build: structs, slices. -/
import Derived.Test.YtjndnconlakjkaaAbsOps6
import Derived.Laws.MakeOwn
set_option linter.unusedVariables false
set_option linter.unusedSimpArgs false
namespace Go.Abs
section
variable {nm : FuncId → Option Nat} {N : Nat} {S S0 : St} {a : Act} {w w0 : World} {L L0 : LabF} {P : Program} {o : Oper} {Cl : Oracle} {d : Nat} {r : V × List Wr} {ws : List Wr}

/-- Labels of what is under way turn. -/
theorem Mid.relabH (M : Mid nm N S0 w0 L0 ws a w L) {f : Place → Option Place} (hfix : ∀ q : Place, q.k.isPl = true → f q = some q) (hback : ∀ q t, f q = some t → t.k.isPl = true → q = t) (hinj : ∀ q q' t, f q = some t → f q' = some t → q = q') :
    Mid nm N S0 w0 L0 ws a w (relab f L) ∧ Step w w L (relab f L) (S0.wrs ws).γ (S0.wrs ws).γ := by
  have hst : Step w w L (relab f L) (S0.wrs ws).γ (S0.wrs ws).γ :=
    ⟨fun B hB => ⟨relab_imm.2 hB, rfl⟩, fun _ => Nat.le_refl _, fun B q o hq _ hB => ⟨relab_of_row hB (hfix q hq), fun cur e fz h => ⟨cur, h, rfl⟩⟩, fun _ _ _ _ _ _ _ => rfl, fun B r o _ hB => relab_box.2 hB⟩
  refine ⟨⟨M.rel.relabH hfix hinj, M.stp.trans hst, M.mono.trans (relab_mono f), ?_, M.heap, M.inj0, fun B r o hB => relab_box.2 (M.boxes B r o hB)⟩, hst⟩
  intro B q o hq hB
  obtain ⟨q0, h1, h2⟩ := relab_row hB
  rw [hback q0 q h2 hq] at h1
  exact M.rows B q o hq h1

/-- A cell under way, at its new place. -/
theorem RepC.relabTo {f : Place → Option Place} {k k' : Key} {j j' : Nat} {γ : Key → Nat} {c : C} {v : Value} (hst : Step w w L (relab f L) γ γ) (h : RepC nm w L γ k j c v) (hf : ∀ p, f ⟨k, j, p⟩ = some ⟨k', j', p⟩) : RepC nm w (relab f L) γ k' j' c v := by
  refine h.step hst ?_
  intro B q o h1 h2 hL
  refine ⟨relab_of_row hL ?_, rfl⟩
  have := hf q.p
  rw [← h1, ← h2] at this
  exact this

/-- Cells of a part come into the whole. -/
def partTo (off n : Nat) : Place → Option Place := fun q =>
  if q.k = .h 1 then (if q.j < n then some ⟨.h 0, off + q.j, q.p⟩ else none)
  else if q.k = .h 0 then (if off ≤ q.j ∧ q.j < off + n then none else some q)
  else some q

theorem partTo_cases {off n : Nat} {q t : Place} (h : partTo off n q = some t) : (q.k = .h 1 ∧ q.j < n ∧ t = ⟨.h 0, off + q.j, q.p⟩) ∨ (q.k = .h 0 ∧ ¬ (off ≤ q.j ∧ q.j < off + n) ∧ t = q) ∨ (q.k ≠ .h 1 ∧ q.k ≠ .h 0 ∧ t = q) := by
  unfold partTo at h
  split at h
  · split at h
    · simp only [Option.some.injEq] at h; exact .inl ⟨‹_›, ‹_›, h.symm⟩
    · cases h
  · split at h
    · split at h
      · cases h
      · simp only [Option.some.injEq] at h; exact .inr (.inl ⟨‹_›, ‹_›, h.symm⟩)
    · simp only [Option.some.injEq] at h; exact .inr (.inr ⟨‹_›, ‹_›, h.symm⟩)
theorem partTo_inj {off n : Nat} {q q' t : Place} (h1 : partTo off n q = some t) (h2 : partTo off n q' = some t) : q = q' := by
  rcases partTo_cases h1 with ⟨a1, a2, a3⟩ | ⟨a1, a2, a3⟩ | ⟨a1, a2, a3⟩ <;> rcases partTo_cases h2 with ⟨b1, b2, b3⟩ | ⟨b1, b2, b3⟩ | ⟨b1, b2, b3⟩
  · rw [a3] at b3
    simp only [Place.mk.injEq, true_and] at b3
    obtain ⟨k, j, p⟩ := q; obtain ⟨k', j', p'⟩ := q'
    simp only at *
    rw [a1, b1, b3.2, show j = j' by omega]
  · exact absurd (by rw [← b3, a3]; simp; omega) b2
  · exact absurd (by rw [← b3, a3]) b2
  · exact absurd (by rw [← a3, b3]; simp; omega) a2
  · rw [← a3, ← b3]
  · exact absurd (by rw [← b3, a3]; exact a1) b2
  · exact absurd (by rw [← a3, b3]) a2
  · exact absurd (by rw [← a3, b3]; exact b1) a2
  · rw [← a3, ← b3]
theorem partTo_fix {off n : Nat} {q : Place} (h : q.k.isPl = true) : partTo off n q = some q := by
  unfold partTo
  rw [if_neg (fun e => by rw [e] at h; simp [Key.isPl] at h), if_neg (fun e => by rw [e] at h; simp [Key.isPl] at h)]
theorem partTo_back {off n : Nat} {q t : Place} (h : partTo off n q = some t) (ht : t.k.isPl = true) : q = t := by
  rcases partTo_cases h with ⟨_, _, rfl⟩ | ⟨_, _, h⟩ | ⟨_, _, h⟩
  · simp [Key.isPl] at ht
  · exact h.symm
  · exact h.symm

/-- The cells of a part in the whole. -/
def upd (cells : Array Value) (off : Nat) (vs : Array Value) : Array Value := vs.zipIdx.foldl (fun cs (c, j) => cs.setIfInBounds (off + j) c) cells

theorem upd_list (off : Nat) : ∀ (l : List Value) (j0 : Nat) (cells : Array Value), ((l.zipIdx j0).foldl (fun cs (c, j) => cs.setIfInBounds (off + j) c) cells).size = cells.size ∧
    ∀ k, k < cells.size → ((l.zipIdx j0).foldl (fun cs (c, j) => cs.setIfInBounds (off + j) c) cells)[k]? = if off + j0 ≤ k ∧ k < off + j0 + l.length then l[k - (off + j0)]? else cells[k]?
  | [], j0, cells => ⟨rfl, fun k hk => by simp; intro h1 h2; omega⟩
  | v :: l, j0, cells => by
    obtain ⟨h1, h2⟩ := upd_list off l (j0 + 1) (cells.setIfInBounds (off + j0) v)
    simp only [List.zipIdx_cons, List.foldl_cons]
    refine ⟨by rw [h1]; simp, fun k hk => ?_⟩
    rw [h2 k (by simpa using hk)]
    by_cases hk1 : off + (j0 + 1) ≤ k ∧ k < off + (j0 + 1) + l.length
    · rw [if_pos hk1, if_pos ⟨by omega, by simp; omega⟩, show k - (off + j0) = (k - (off + (j0 + 1))) + 1 by omega, List.getElem?_cons_succ]
    · rw [if_neg hk1]
      by_cases hk2 : k = off + j0
      · subst hk2
        rw [if_pos ⟨Nat.le_refl _, by simp⟩, Nat.sub_self]
        simp [Array.getElem?_setIfInBounds, hk]
      · rw [Array.getElem?_setIfInBounds_ne (fun e => hk2 e.symm), if_neg (by simp; omega)]

theorem upd_spec (cells : Array Value) (off : Nat) (vs : Array Value) : (upd cells off vs).size = cells.size ∧ ∀ k, k < cells.size → (upd cells off vs)[k]? = if off ≤ k ∧ k < off + vs.size then vs[k - off]? else cells[k]? := by
  have := upd_list off vs.toList 0 cells
  unfold upd
  rw [← Array.foldl_toList, Array.toList_zipIdx]
  simpa using this

theorem splice_get {α : Type} {l : List α} {off : Nat} {cs : List α} (h : off + cs.length ≤ l.length) (k : Nat) : (splice l off cs)[k]? = if off ≤ k ∧ k < off + cs.length then cs[k - off]? else l[k]? := by
  unfold splice
  have h1 : (l.take off).length = off := by rw [List.length_take]; omega
  by_cases hk : k < off
  · rw [List.append_assoc, List.getElem?_append_left (by omega), List.getElem?_take_of_lt hk, if_neg (by omega)]
  · by_cases hk2 : k < off + cs.length
    · rw [List.append_assoc, List.getElem?_append_right (by omega), h1, List.getElem?_append_left (by omega), if_pos ⟨by omega, hk2⟩]
    · rw [List.getElem?_append_right (by rw [List.length_append, h1]; omega), List.length_append, h1, List.getElem?_drop, if_neg (by omega)]
      congr 1; omega
theorem splice_length {α : Type} {l : List α} {off : Nat} {cs : List α} (h : off + cs.length ≤ l.length) : (splice l off cs).length = l.length := by
  simp [splice]; omega

def PartsOk (nm : FuncId → Option Nat) (place : Nat → Option (Nat × Nat)) : List (Nat × Nat × Abs.X) → List (Nat × Operand) → Prop
  | [], [] => True
  | (off, n, X) :: t, (i, x) :: t' => place i = some (off, n) ∧ n ≠ 0 ∧ OpRel nm X x ∧ X.okC = true ∧ PartsOk nm place t t'
  | _, _ => False

theorem evParts_rep (R0 : Rel nm N S0 a w0 L0) {place : Nat → Option (Nat × Nat)} : ∀ (parts : List (Nat × Nat × Abs.X)) (ps : List (Nat × Operand)) {ws : List Wr} {L : LabF} {cells : List C} {vs : Array Value} (M : Mid nm N S0 w0 L0 ws a w L) (hf : FreeH L 1)
    (hl : cells.length = vs.size) (hc : ∀ (j : Nat) c u, cells[j]? = some c → vs[j]? = some u → RepC nm w L (S0.wrs ws).γ (.h 0) j c u) (hp : PartsOk nm place parts ps) {r : List C × List Wr} (hr : (evParts ws cells parts).run S0 = some r),
    ∃ L' vs', Instr.fill place vs (ps.map fun p => (p.1, a.eval p.2)) = some vs' ∧ Mid nm N S0 w0 L0 r.2 a w L' ∧ r.1.length = vs'.size ∧ ∀ (j : Nat) c u, r.1[j]? = some c → vs'[j]? = some u → RepC nm w L' (S0.wrs r.2).γ (.h 0) j c u
  | [], [], ws, L, cells, vs, M, hf, hl, hc, hp, r, hr => by
    simp only [evParts] at hr
    obtain rfl := Q.run_pure_some hr
    exact ⟨L, vs, rfl, M, hl, hc⟩
  | (off, n, X) :: parts, (i, x) :: ps, ws, L, cells, vs, M, hf, hl, hc, hp, r, hr => by
    obtain ⟨hpl, hn, hx, hok, hp⟩ := hp
    simp only [evParts] at hr
    obtain ⟨⟨v, ws1⟩, h1, h2⟩ := Q.run_bind_some hr
    clear hr
    obtain ⟨⟨cs, ws2⟩, h3, h4⟩ := Q.run_bind_some h2
    clear h2
    obtain ⟨hg, h5⟩ := Q.run_guard_some h4
    clear h4
    simp only [Bool.and_eq_true, beq_iff_eq, decide_eq_true_eq] at hg
    obtain ⟨hcl, hoff⟩ := hg
    obtain ⟨L1, O1, hl1, hc1⟩ := part_rep M R0 hf hx hok h1 h3 (by omega)
    obtain ⟨M2, hst⟩ := O1.mid.relabH (f := partTo off n) (fun q hq => partTo_fix hq) (fun q t h ht => partTo_back h ht) (fun q q' t a b => partTo_inj a b)
    have hf2 : FreeH (relab (partTo off n) L1) 1 := by
      intro B q o hB e
      obtain ⟨q0, _, h2⟩ := relab_row hB
      rcases partTo_cases h2 with ⟨_, _, h⟩ | ⟨h6, _, h⟩ | ⟨h6, _, h⟩
      · rw [h] at e; simp at e
      · rw [h, h6] at e; simp at e
      · rw [h] at e; exact h6 e
    obtain ⟨u1, u2⟩ := upd_spec vs off (a.eval x).cells
    have hle : off + cs.length ≤ cells.length := by omega
    obtain ⟨L', vs', g1, g2, g3, g4⟩ := evParts_rep R0 parts ps (cells := splice cells off cs) (vs := upd vs off (a.eval x).cells) M2 hf2 (by rw [splice_length hle, u1]; exact hl) (by
      intro j c u hj hu
      rw [splice_get hle] at hj
      have hju : j < vs.size := by rw [← u1]; exact (Array.getElem?_eq_some_iff.1 hu).1
      rw [u2 j hju, ← hl1] at hu
      by_cases hin : off ≤ j ∧ j < off + cs.length
      · rw [if_pos hin] at hj hu
        have := RepC.relabTo (k' := .h 0) (j' := j) hst (hc1 (j - off) c u hj hu) (fun p => by
          simp only [partTo, if_true]; rw [if_pos (by omega), show off + (j - off) = j by omega])
        exact this
      · rw [if_neg hin] at hj hu
        have h0 := (hc j c u hj hu).keep O1.keep (fun p => by simp)
        exact RepC.relabTo hst h0 (fun p => by
          simp only [partTo]; rw [if_neg (by simp), if_pos trivial, if_neg (by omega)])) hp h5
    refine ⟨L', vs', ?_, g2, g3, g4⟩
    simp only [List.map_cons, Instr.fill, hpl]
    rw [if_neg (by simp; omega)]
    exact g1
  | [], _ :: _, _, _, _, _, _, _, _, _, hp, _, _ => hp.elim
  | (_, _, _) :: _, [], _, _, _, _, _, _, _, _, hp, _, _ => hp.elim

theorem run_mapM_list {α β : Type} {f : α → Sem β} {g : α → β} : ∀ (l : List α), (∀ x ∈ l, (f x).run P w = .ok (g x) w) → (l.mapM f).run P w = .ok (l.map g) w
  | [], _ => by simp
  | x :: l, h => by
    rw [List.mapM_cons]
    simp [h x (by simp), run_mapM_list l (fun y hy => h y (by simp [hy]))]

theorem ev_build (R : Rel nm N S a w L) (hH : NoH L) (hd : ∀ d, o.dst = some d → d < N) {t : TypeId} {fs : Array Field} {parts : Array (Nat × Operand)} {zs : List C} {ps : List (Nat × Nat × Abs.X)} (ho : o.op = .build t parts) (hz : zeroC P t = some zs) (ht : P.underlying t = some (.struct fs))
    (hall : ∀ f ∈ fs.toList, (szOf P f.type).isSome = true) (hp : PartsOk nm (fun i => (fs.map fun f => (f.offset, (szOf P f.type).getD 0))[i]?) ps parts.toList)
    (hr : (evOp Cl d (.build zs ps)).run S = some r) : OpsTo P a w o (Aft nm N S w L a o.dst r.1 r.2) := by
  simp only [evOp] at hr
  obtain ⟨⟨cs, ws1⟩, h1, h2⟩ := Q.run_bind_some hr
  clear hr
  obtain rfl := Q.run_pure_some h2
  obtain ⟨i, z, k1, k2, k3, k4, k5⟩ := zeroC_inv hz
  obtain ⟨L', vs', g1, g2, g3, g4⟩ := evParts_rep R ps parts.toList (Mid.init R) (fun B q o hB e => by have := hH B q o hB; rw [e] at this; simp [Key.isPl] at this) (cells := zs) (vs := z.cells) k3.symm
    (fun j c u hj hu => (k5 j c u hj hu).rep _ _ _ _ _) hp h1
  refine .val (v := .agg vs') (w' := w) ?_ (g2.rel.aft g2.mono hd (.agg g3 g4))
  have hm : (fs.mapM fun f => do pure (f.offset, ← sizeOf f.type) : Sem _).run P w = .ok (fs.map fun f => (f.offset, (szOf P f.type).getD 0)) w := by
    rw [Array.mapM_eq_mapM_toList]
    rw [Sem.run_map, run_mapM_list (g := fun f => (f.offset, (szOf P f.type).getD 0)) fs.toList (fun f hf => by
      obtain ⟨n, hn⟩ := Option.isSome_iff_exists.1 (hall f hf)
      simp [run_sizeOf' hn, hn])]
    simp only [Result.andThen_ok]
    congr 1
    apply Array.ext'
    simp
  have : (Instr.build t (parts.map fun (i, x) => (i, a.eval x))).run P w = .ok (.agg vs') w := by
    simp only [Instr.build, Sem.run_bind, zeroValue, typeInfo, run_program, k1, k2, Result.andThen_ok, Sem.run_pure, run_underlying ht, hm]
    have hpe : (parts.map fun (i, x) => (i, a.eval x)).toList = parts.toList.map fun p => (p.1, a.eval p.2) := by simp
    rw [hpe, g1]
    rfl
  simp [execOp, ho, this]
end
end Go.Abs
