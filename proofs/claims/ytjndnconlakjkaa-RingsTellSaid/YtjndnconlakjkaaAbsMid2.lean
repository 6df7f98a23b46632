/- In the middle of an operation: lists of cells; the end of an operation. -/
import Derived.Test.YtjndnconlakjkaaAbsMid
set_option linter.unusedVariables false
set_option linter.unusedSimpArgs false
namespace Go.Abs
section
variable {nm : FuncId → Option Nat} {N : Nat} {S0 : St} {w0 : World} {L0 : LabF} {ws : List Wr} {a : Act} {w : World} {L : LabF}

theorem LimC.rep {γ0 γ : Key → Nat} (hs : Step w0 w L0 L γ0 γ) {m j : Nat} {c : C} {v : Value} (h : LimC nm w0 L0 γ0 w L γ m j c v) : RepC nm w L γ (.h m) j c v := by
  cases c with
  | view => exact RepC.stepClean hs h rfl _ _
  | _ => exact h

theorem LimV.rep {γ0 γ : Key → Nat} (hs : Step w0 w L0 L γ0 γ) {m : Nat} {x : V} {v : Value} (h : LimV nm w0 L0 γ0 w L γ m x v) : RepV nm w L γ (.h m) x v := by
  cases x with
  | one c => exact .one (LimC.rep hs h)
  | agg cs =>
    obtain ⟨vs, rfl, hl, hc⟩ := h
    exact .agg hl fun j c u h1 h2 => (hc j c u h1 h2).rep hs
  | tup vs => exact h

theorem LimC.of_keep {γ0 γ : Key → Nat} {m j : Nat} {c : C} {v : Value} (h0 : RepC nm w0 L0 γ0 (.h m) j c v) (h : RepC nm w L γ (.h m) j c v) : LimC nm w0 L0 γ0 w L γ m j c v := by
  cases c with
  | view => exact h0
  | _ => exact h

/-- Cells under way, made fit to be stored. -/
theorem stL_rep {m : Nat} : ∀ (cs : List C) {ws : List Wr} {L : LabF} (M : Mid nm N S0 w0 L0 ws a w L) (j0 : Nat) (vs : Nat → Value)
    (hc : ∀ j c, cs[j]? = some c → LimC nm w0 L0 S0.γ w L (S0.wrs ws).γ m (j0 + j) c (vs (j0 + j))) {r : List C × List Wr} (hr : (stL ws cs).run S0 = some r),
    ∃ L', Out nm N S0 w0 L0 ws r.2 a w L L' (fun q => ¬ (q.k = .h m ∧ j0 ≤ q.j)) m ∧ r.1.length = cs.length ∧
      ∀ j c, r.1[j]? = some c → RepC nm w L' (S0.wrs r.2).γ (.h m) (j0 + j) c (vs (j0 + j))
  | [], ws, L, M, j0, vs, hc, r, hr => by
    simp only [stL, Q.run_pure, Option.some.injEq] at hr
    subst hr
    exact ⟨L, Out.refl M _ m, rfl, fun j c h => by simp at h⟩
  | c :: cs, ws, L, M, j0, vs, hc, r, hr => by
    simp only [stL, Q.run_bind] at hr
    cases h1 : (st ws c).run S0 with
    | none => simp [h1] at hr
    | some r1 =>
      obtain ⟨c1, ws1⟩ := r1
      simp only [h1, Option.bind_some, Q.run_bind] at hr
      cases h2 : (stL ws1 cs).run S0 with
      | none => simp [h2] at hr
      | some r2 =>
        obtain ⟨cs2, ws2⟩ := r2
        simp only [h2, Option.bind_some, Q.run_pure, Option.some.injEq] at hr
        subst hr
        obtain ⟨L1, O1, R1⟩ := st_rep M (by simpa using hc 0 c rfl) h1
        obtain ⟨L2, O2, hl, R2⟩ := stL_rep cs O1.mid (j0 + 1) vs (fun j c h => by
          have := hc (j + 1) c (by simpa using h)
          have := this.keep O1.keep (fun p => by simp)
          rwa [show j0 + 1 + j = j0 + (j + 1) by omega]) h2
        refine ⟨L2, (O1.weaken ?_).trans (O2.weaken ?_), by simp [hl], ?_⟩
        · intro q hq h; exact hq ⟨h.1, by omega⟩
        · intro q hq h; exact hq ⟨h.1, by omega⟩
        · intro j c hj
          cases j with
          | zero =>
            simp only [List.getElem?_cons_zero, Option.some.injEq] at hj
            subst hj
            exact R1.keep O2.keep (fun p => by simp)
          | succ j =>
            have := R2 j c (by simpa using hj)
            rwa [show j0 + 1 + j = j0 + (j + 1) by omega] at this

theorem put_size (a : Act) (i : Nat) (v : Value) : (a.put (some i) v).tmps.size = a.tmps.size := by simp [Act.put]
theorem put_getD {a : Act} {i : Nat} {v : Value} (h : i < a.tmps.size) : (a.put (some i) v).tmps.getD i undef = v := by
  simp [Act.put, Array.getD_eq_getD_getElem?, Array.getElem?_setIfInBounds, h]
theorem put_getD_ne {a : Act} {i j : Nat} {v : Value} (h : i ≠ j) : (a.put (some i) v).tmps.getD j undef = a.tmps.getD j undef := by
  simp [Act.put, Array.getD_eq_getD_getElem?, Array.getElem?_setIfInBounds_ne h]

/-- A slot is written, and labels turn with it. -/
theorem Rel.slotSet {S : St} (h : Rel nm N S a w L) {i : Nat} {x : V} {v : Value} {L' : LabF} (hi : i < N)
    (himm : ∀ B, L B = some .imm → L' B = some .imm)
    (hown : ∀ B q o, q.k ≠ .s i → q.k.isPl = true → L B = some (.row q o) → L' B = some (.row q o))
    (hbox : ∀ B r o, L' B = some (.box r o) ↔ L B = some (.box r o))
    (hd : ∀ B l, L' B = some l → ∃ l0, L B = some l0) (hri : RowInj L')
    (hv : RepV nm w L' (bump S (.s i)) (.s i) x v) :
    Rel nm N (S.wr { k := .s i, v := x }) (a.put (some i) v) w L' := by
  have hst : Step w w L L' S.γ (S.wr { k := .s i, v := x }).γ := by
    refine ⟨fun B hB => ⟨himm B hB, rfl⟩, S.γ_wr_le _, ?_, fun _ _ _ _ _ _ _ => rfl, fun B r o _ hB => (hbox B r o).2 hB⟩
    intro B q o hq hγ hL
    rw [γ_bump] at hγ
    exact ⟨hown B q o (bump_ne hγ) hq hL, fun cur e fz hB => ⟨cur, hB, rfl⟩⟩
  refine h.write { k := .s i, v := x } (put_size a i v) h.defers (fun j hj => put_getD_ne (fun e => hj (by rw [e]))) hst (fun B q o h1 h2 h3 => ⟨hown B q o h1 h2 h3, rfl⟩)
    (fun B r o _ hL => ⟨(hbox B r o).2 hL, fun cur e fz hB => ⟨cur, hB, rfl, fun _ _ => rfl⟩⟩) ?_ ?_ hri ?_
  · show RepV nm w L' _ (.s i) x ((a.put (some i) v).tmps.getD i undef)
    rw [put_getD (by rw [h.size]; exact hi), γ_bump]
    exact hv
  · intro B l hB
    obtain ⟨l0, h0⟩ := hd B l hB
    exact h.dom B l0 h0
  · intro B B' r o o' h1 h2
    exact h.boxInj B B' r o o' ((hbox _ _ _).1 h1) ((hbox _ _ _).1 h2)

/-- What an operation leaves. -/
structure Done (nm : FuncId → Option Nat) (N : Nat) (S : St) (w0 : World) (L0 : LabF) (a : Act) (w : World) (L : LabF) : Prop where
  rel : Rel nm N S a w L
  mono : Mono w0 w L0 L
  noH : NoH L

theorem Mid.done (M : Mid nm N S0 w0 L0 ws a w L) {m d : Nat} {x : V} {v : Value} (hd : d < N) (hv : RepV nm w L (S0.wrs ws).γ (.h m) x v) :
    ∃ L', Done nm N (S0.wrs ({ k := .s d, v := x } :: ws)) w0 L0 (a.put (some d) v) w L' := by
  obtain ⟨L', h1, h2, h3, _⟩ := M.rel.slotPut hd hv
  exact ⟨L', h1, M.mono.trans h3, h2⟩
end
end Go.Abs
