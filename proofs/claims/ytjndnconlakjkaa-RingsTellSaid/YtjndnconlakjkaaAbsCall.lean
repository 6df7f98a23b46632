/- Calls: the arguments. -/
import Derived.Test.YtjndnconlakjkaaAbsCodeS
set_option linter.unusedVariables false
set_option linter.unusedSimpArgs false
namespace Go.Abs
section
variable {nm : FuncId → Option Nat} {N : Nat} {S S0 : St} {a : Act} {w w0 : World} {L L0 : LabF} {P : Program} {o : Oper} {Cl : Oracle} {d : Nat} {ws : List Wr} {γ : Key → Nat}

/-- What is under way is nobody's. -/
def frzH (L : LabF) : LabF := fun B =>
  match L B with
  | some (.row q o) => if q.k = .h 0 then some .imm else some (.row q o)
  | x => x
theorem frzH_imm {B : Nat} (h : L B = some .imm) : frzH L B = some .imm := by simp [frzH, h]
theorem frzH_box {B o : Nat} {r : Root} : frzH L B = some (.box r o) ↔ L B = some (.box r o) := by
  unfold frzH
  split
  · rename_i q o' hL
    rw [hL]
    split <;> simp
  · rfl
theorem frzH_none {B : Nat} (h : L B = none) : frzH L B = none := by simp [frzH, h]
theorem frzH_row {B o : Nat} {q : Place} (h : L B = some (.row q o)) (hq : q.k ≠ .h 0) : frzH L B = some (.row q o) := by simp [frzH, h, hq]
theorem frzH_mov {B o : Nat} {q : Place} (h : L B = some (.row q o)) (hq : q.k = .h 0) : frzH L B = some .imm := by simp [frzH, h, hq]
theorem frzH_row' {B o : Nat} {q : Place} (h : frzH L B = some (.row q o)) : L B = some (.row q o) ∧ q.k ≠ .h 0 := by
  unfold frzH at h
  split at h
  · rename_i q0 o0 hL
    split at h
    · cases h
    · rename_i hq
      simp only [Option.some.injEq, Lab.row.injEq] at h
      obtain ⟨rfl, rfl⟩ := h
      exact ⟨hL, hq⟩
  · rename_i h1; exact absurd h (h1 q o)
theorem frzH_dom {B : Nat} {l : Lab} (h : frzH L B = some l) : ∃ l0, L B = some l0 := by
  unfold frzH at h
  split at h
  · rename_i q0 o0 hL; exact ⟨_, hL⟩
  · exact ⟨_, h⟩

theorem Mid.frz (M : Mid nm N S0 w0 L0 ws a w L) : Mid nm N S0 w0 L0 ws a w (frzH L) ∧ Step w w L (frzH L) (S0.wrs ws).γ (S0.wrs ws).γ := by
  have hpl : ∀ {q : Place}, q.k.isPl = true → q.k ≠ .h 0 := fun h e => by rw [e] at h; simp [Key.isPl] at h
  have hst : Step w w L (frzH L) (S0.wrs ws).γ (S0.wrs ws).γ :=
    ⟨fun B hB => ⟨frzH_imm hB, rfl⟩, fun _ => Nat.le_refl _, fun B q o hq _ hB => ⟨frzH_row hB (hpl hq), fun cur e fz h => ⟨cur, h, rfl⟩⟩, fun _ _ _ _ _ _ _ => rfl, fun B r o _ hB => frzH_box.2 hB⟩
  refine ⟨⟨M.rel.growH ?_ ?_ ?_ ?_, M.stp.trans hst, M.mono.trans ⟨rfl, rfl, rfl, Nat.le_refl _, fun B hB => ⟨frzH_imm hB, rfl⟩, fun B _ hB => ⟨frzH_none hB, rfl⟩, fun B i o hB => frzH_box.2 hB⟩, ?_, M.heap, M.inj0, fun B r o hB => frzH_box.2 (M.boxes B r o hB)⟩, hst⟩
  · intro B l hB hl
    refine ⟨rfl, ?_⟩
    cases l with
    | imm => exact frzH_imm hB
    | box r o => exact frzH_box.2 hB
    | row q o => exact frzH_row hB (hpl (hl q o rfl))
  · intro B l hB
    obtain ⟨l0, h0⟩ := frzH_dom hB
    exact M.rel.dom B l0 h0
  · intro B B' pl o o' h1 h2
    exact M.rel.rowInj B B' pl o o' (frzH_row' h1).1 (frzH_row' h2).1
  · intro B B' r o o' h1 h2
    exact M.rel.boxInj B B' r o o' (frzH_box.1 h1) (frzH_box.1 h2)
  · intro B q o hq hB
    exact M.rows B q o hq (frzH_row' hB).1

theorem plainD_clean (x : D) : (C.d (plainD x)).clean = true := by
  cases x with
  | sl t sz rows => cases t <;> rfl
  | _ => rfl

/-- A cell under way, as it is handed over. -/
theorem RepC.plainH {k' : Key} {j j' : Nat} {c : C} {v : Value} (hst : Step w w L (frzH L) γ γ) (h : RepC nm w L γ (.h 0) j c v) (hc : ∀ pl g a sz rows, c ≠ .appd pl g a sz rows) : RepC nm w (frzH L) γ k' j' c.plain v ∧ c.plain.clean = true := by
  cases c with
  | d x =>
    cases h with
    | d h =>
      exact ⟨.d (.plain (RepD.freeze (fun q => q.k = .h 0) (fun _ _ _ h => h) (fun B hB => ⟨frzH_imm hB, rfl⟩) (fun B q o hq hL => ⟨frzH_mov hL hq, rfl⟩) h rfl)), plainD_clean x⟩
  | appd pl g a sz rows => exact absurd rfl (hc pl g a sz rows)
  | _ => exact ⟨h.stepClean hst (h.clean_of rfl) _ _, h.clean_of rfl⟩

theorem st_noappd {c : C} {rr : C × List Wr} (h : (st ws c).run S = some rr) : ∀ pl g a sz rows, rr.1 ≠ .appd pl g a sz rows := by
  intro pl g a sz rows e
  cases c with
  | view pl' g' sz' off len =>
    simp only [st] at h
    obtain ⟨res, h1, h2⟩ := Q.run_bind_some h
    obtain ⟨_, h3⟩ := Q.run_guard_some h2
    obtain rfl := Q.run_pure_some h3
    cases e
  | appd pl' g' a' sz' rows' =>
    simp only [st] at h
    obtain ⟨res, h1, h2⟩ := Q.run_bind_some h
    have h3 := Q.run_at_some h2
    obtain ⟨_, h4⟩ := Q.run_guard_some h3
    obtain rfl := Q.run_pure_some h4
    cases e
  | eptr => simp [st] at h
  | dead => simp [st] at h
  | _ => simp only [st] at h; obtain rfl := Q.run_pure_some h; cases e
theorem stL_noappd : ∀ (cs : List C) {ws : List Wr} {rr : List C × List Wr}, (stL ws cs).run S = some rr → ∀ c ∈ rr.1, ∀ pl g a sz rows, c ≠ .appd pl g a sz rows
  | [], ws, rr, h, c, hc => by
    simp only [stL] at h
    obtain rfl := Q.run_pure_some h
    simp at hc
  | x :: cs, ws, rr, h, c, hc => by
    simp only [stL] at h
    obtain ⟨r1, h1, h2⟩ := Q.run_bind_some h
    obtain ⟨r2, h3, h4⟩ := Q.run_bind_some h2
    obtain rfl := Q.run_pure_some h4
    rcases List.mem_cons.1 hc with rfl | hc
    · exact st_noappd h1
    · exact stL_noappd cs h3 c hc

theorem noH_frz (M : Mid nm N S0 w0 L0 ws a w L) (h : ∀ B q o, L B = some (.row q o) → q.k.isPl = false → q.k = .h 0) : NoH (frzH L) := by
  intro B q o hB
  obtain ⟨h1, h2⟩ := frzH_row' hB
  cases hq : q.k.isPl with
  | true => rfl
  | false => exact absurd (h B q o h1 hq) h2

theorem cleanL_map {cs : List C} (h : ∀ (j : Nat) c, cs[j]? = some c → c.clean = true) : cleanL cs = true := by
  induction cs with
  | nil => rfl
  | cons c t ih =>
    simp only [cleanL, Bool.and_eq_true]
    exact ⟨h 0 c rfl, ih (fun j c' hj => h (j + 1) c' (by simpa using hj))⟩

/-- The arguments, read. -/
theorem rdArgs_rep (R0 : Rel nm N S0 a w0 L0) : ∀ (xs : List (Bool × X)) (ps : List Operand) {ws : List Wr} {L : LabF} (M : Mid nm N S0 w0 L0 ws a w L) (hH : NoH L) (hp : xs.length = ps.length) (hx : ∀ (j : Nat) X x, xs[j]? = some X → ps[j]? = some x → OpRel nm X.2 x ∧ X.2.okC = true) {rr : List V × List Wr} (hr : (rdArgs ws xs).run S0 = some rr),
    ∃ L', Mid nm N S0 w0 L0 rr.2 a w L' ∧ NoH L' ∧ Step w w L L' (S0.wrs ws).γ (S0.wrs rr.2).γ ∧ rr.1.length = ps.length ∧ cleanVs rr.1 = true ∧ ∀ (j : Nat) x p, rr.1[j]? = some x → ps[j]? = some p → RepV nm w L' (S0.wrs rr.2).γ (.h 0) x (a.eval p)
  | [], [], ws, L, M, hH, hp, hx, rr, hr => by
    simp only [rdArgs] at hr
    obtain rfl := Q.run_pure_some hr
    exact ⟨L, M, hH, Step.same w L (fun _ => Nat.le_refl _), rfl, rfl, fun j x p h => by simp at h⟩
  | (b, X) :: xs, p :: ps, ws, L, M, hH, hp, hx, rr, hr => by
    simp only [rdArgs] at hr
    obtain ⟨⟨v, ws1⟩, h1, h2⟩ := Q.run_bind_some hr
    clear hr
    dsimp only at h2
    obtain ⟨hX, hXo⟩ := hx 0 (b, X) p rfl rfl
    obtain ⟨L1, O1, V1⟩ := tk_rep M R0 (hH.free 0) hXo hX h1
    dsimp only at O1 V1
    have fin : ∀ {ws2 : List Wr} {L2 : LabF} {x' : V} {rest : List V × List Wr}, Mid nm N S0 w0 L0 ws2 a w L2 → NoH L2 → Step w w L L2 (S0.wrs ws).γ (S0.wrs ws2).γ → x'.clean = true → RepV nm w L2 (S0.wrs ws2).γ (.h 0) x' (a.eval p) → (rdArgs ws2 xs).run S0 = some rest → rr = (x' :: rest.1, rest.2) →
        ∃ L', Mid nm N S0 w0 L0 rr.2 a w L' ∧ NoH L' ∧ Step w w L L' (S0.wrs ws).γ (S0.wrs rr.2).γ ∧ rr.1.length = (p :: ps).length ∧ cleanVs rr.1 = true ∧ ∀ (j : Nat) x p', rr.1[j]? = some x → (p :: ps)[j]? = some p' → RepV nm w L' (S0.wrs rr.2).γ (.h 0) x (a.eval p') := by
      intro ws2 L2 x' rest M2 hH2 st2 hcl rep h5 hrr
      obtain ⟨L3, M3, hH3, st3, hl3, hc3, R3⟩ := rdArgs_rep R0 xs ps M2 hH2 (by simpa using hp) (fun j X x h1 h2 => hx (j + 1) X x (by simpa using h1) (by simpa using h2)) h5
      subst hrr
      refine ⟨L3, M3, hH3, st2.trans st3, by simp [hl3], by simp [cleanVs, hcl, hc3], ?_⟩
      intro j x p' hj hp'
      cases j with
      | zero =>
        simp only [List.getElem?_cons_zero, Option.some.injEq] at hj hp'
        subst hj; subst hp'
        exact rep.stepClean st3 hcl _
      | succ j => exact R3 j x p' (by simpa using hj) (by simpa using hp')
    have limO : ∀ {ws1 : List Wr} {L1 : LabF} {K : Place → Prop}, Out nm N S0 w0 L0 ws ws1 a w L L1 K 0 → ∀ B q o, L1 B = some (.row q o) → q.k.isPl = false → q.k = .h 0 := by
      intro ws1 L1 K O B q o hB hq
      by_cases hk : q.k = .h 0
      · exact hk
      · have := hH B q o (O.onlyH B q o hq hk hB)
        rw [hq] at this; cases this
    split at h2
    · rename_i c
      obtain ⟨⟨c', ws2⟩, h3, h4⟩ := Q.run_bind_some h2
      clear h2
      obtain ⟨⟨vs, ws3⟩, h5, h6⟩ := Q.run_bind_some h4
      clear h4
      have hrr := Q.run_pure_some h6
      obtain ⟨L2, O2, R2⟩ := st_rep (m := 0) (j := 0) (c := c) (v := a.eval p) O1.mid V1 h3
      dsimp only at O2 R2 h5
      have O12 := (O1.weaken (K' := fun q => ¬ (q.k = .h 0 ∧ q.j = 0)) (fun _ _ => trivial)).trans O2
      obtain ⟨M3, st3⟩ := O2.mid.frz
      obtain ⟨R3, hcl⟩ := RepC.plainH (k' := .h 0) (j' := 0) st3 R2 (st_noappd h3)
      exact fin M3 (noH_frz O2.mid (limO O12)) (O12.stp.trans st3) (x' := .one c'.plain) hcl (.one R3) h5 hrr
    · rename_i cs
      obtain ⟨⟨cs', ws2⟩, h3, h4⟩ := Q.run_bind_some h2
      clear h2
      obtain ⟨⟨vs, ws3⟩, h5, h6⟩ := Q.run_bind_some h4
      clear h4
      have hrr := Q.run_pure_some h6
      obtain ⟨us, hus, hl, hV⟩ := V1
      obtain ⟨L2, O2, l2, R2⟩ := stL_rep (m := 0) cs O1.mid 0 (fun j => us.getD j undef) (fun j c hc => by
        have hj : j < us.size := by rw [← hl]; exact (List.getElem?_eq_some_iff.1 hc).1
        have := hV j c _ hc (Array.getElem?_eq_getElem hj)
        simpa [Array.getD, hj] using this) h3
      dsimp only at O2 R2 h5 l2
      have O12 := (O1.weaken (K' := fun q => ¬ (q.k = .h 0 ∧ 0 ≤ q.j)) (fun _ _ => trivial)).trans O2
      obtain ⟨M3, st3⟩ := O2.mid.frz
      have each : ∀ (j : Nat) c, (cs'.map C.plain)[j]? = some c → c.clean = true ∧ ∀ u, us[j]? = some u → RepC nm w (frzH L2) (S0.wrs ws2).γ (.h 0) j c u := by
        intro j c hc
        rw [List.getElem?_map] at hc
        cases hj : cs'[j]? with
        | none => simp [hj] at hc
        | some c0 =>
          simp only [hj, Option.map_some, Option.some.injEq] at hc
          subst hc
          have := R2 j c0 hj
          rw [Nat.zero_add] at this
          have hp := RepC.plainH (k' := .h 0) (j' := j) st3 this (stL_noappd _ h3 c0 (List.mem_of_getElem? hj))
          refine ⟨hp.2, fun u hu => ?_⟩
          have h1 := hp.1
          simp only [Array.getD_eq_getD_getElem?, hu, Option.getD_some] at h1
          exact h1
      refine fin M3 (noH_frz O2.mid (limO O12)) (O12.stp.trans st3) (x' := .agg (cs'.map C.plain)) (cleanL_map (fun j c hc => (each j c hc).1)) ?_ h5 hrr
      rw [hus]
      exact .agg (by simp [l2, hl]) (fun j c u hc hu => (each j c hc).2 u hu)
    · cases h2
  | [], _ :: _, _, _, _, _, hp, _, _, _ => by simp at hp
  | _ :: _, [], _, _, _, _, hp, _, _, _ => by simp at hp
end
end Go.Abs
