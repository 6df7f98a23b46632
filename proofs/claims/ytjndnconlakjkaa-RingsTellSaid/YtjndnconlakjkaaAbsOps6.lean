/- Operations that make boxes. -/
import Derived.Test.YtjndnconlakjkaaAbsOps5
set_option linter.unusedVariables false
set_option linter.unusedSimpArgs false
namespace Go.Abs
section
variable {nm : FuncId → Option Nat} {N : Nat} {S S0 : St} {a : Act} {w w0 : World} {L L0 : LabF} {P : Program} {o : Oper} {Cl : Oracle} {d : Nat} {r : V × List Wr} {ws : List Wr}

theorem mapM_inv {α β : Type} {f : α → Option β} : ∀ (l : List α) {r : List β}, l.mapM f = some r → r.length = l.length ∧ ∀ (j : Nat) y, r[j]? = some y → ∃ x, l[j]? = some x ∧ f x = some y
  | [], r, h => by
    have : r = [] := by simpa using h.symm
    subst this
    exact ⟨rfl, fun j y hy => by simp at hy⟩
  | x :: l, r, h => by
    rw [List.mapM_cons] at h
    cases hx : f x with
    | none => simp [hx] at h
    | some y =>
      cases hl : l.mapM f with
      | none => simp [hx, hl] at h
      | some r' =>
        simp [hx, hl] at h
        subst h
        obtain ⟨h1, h2⟩ := mapM_inv l hl
        refine ⟨by simp [h1], fun j z hz => ?_⟩
        cases j with
        | zero => simp at hz; subst hz; exact ⟨x, rfl, hx⟩
        | succ j => obtain ⟨x', g1, g2⟩ := h2 j z (by simpa using hz); exact ⟨x', by simpa using g1, g2⟩

/-- A constant cell. -/
def ConstC (c : C) (u : Value) : Prop := (∃ sz, constC sz u = some c)
theorem ConstC.rep {c : C} {u : Value} (h : ConstC c u) (w : World) (L : LabF) (γ : Key → Nat) (k : Key) (j : Nat) : RepC nm w L γ k j c u := by
  obtain ⟨sz, h⟩ := h; exact (constC_rep h).1 w L γ k j
theorem ConstC.own {c : C} {u : Value} (h : ConstC c u) : c.own = false := by
  obtain ⟨sz, h⟩ := h; exact (constC_rep (nm := fun _ => none) h).2

theorem zeroC_inv {t : TypeId} {zs : List C} (h : zeroC P t = some zs) : ∃ i z, P.info? t = some i ∧ i.zero = some z ∧ z.cells.size = zs.length ∧ z.cells.size = i.size ∧ ∀ (j : Nat) c u, zs[j]? = some c → z.cells[j]? = some u → ConstC c u := by
  unfold zeroC at h
  split at h
  · rename_i i l h1 h2
    split at h
    · rename_i z hz
      split at h
      · rename_i hc
        obtain ⟨g1, g2⟩ := mapM_inv _ h
        refine ⟨i, z, h1, hz, by rw [g1]; simp [← hc.1], hc.2, ?_⟩
        intro j c u hj hu
        obtain ⟨x, k1, k2⟩ := g2 j c hj
        rw [List.getElem?_zip_eq_some] at k1
        have : x.2 = u := by
          have := k1.2
          rw [Array.getElem?_toList, hu] at this
          simpa using this.symm
        rw [this] at k2
        exact ⟨_, k2⟩
      · cases h
    · cases h
  · cases h

theorem boxed_rep (M : Mid nm N S0 w0 L0 ws a w L) {m : Nat} {cs : List C} {vs : Array Value} {e : TypeId} (hl : cs.length = vs.size)
    (hx : ∀ (j : Nat) x v, cs[j]? = some x → vs[j]? = some v → RepC nm w L (S0.wrs ws).γ (.h m) j x v) (hr : (boxed d cs ws).run S0 = some r) {dst : Option Nat} (hd : ∀ d, dst = some d → d < N) :
    Aft nm N S0 w0 L0 a dst r.1 r.2 (.pointer (some ⟨w.heap.size, 0, none⟩)) (w.alloc (.cells vs e)) := by
  unfold boxed at hr
  rw [Q.run_bind, atP_run, Option.bind_some] at hr
  obtain ⟨hg, h2⟩ := Q.run_guard_some hr
  clear hr
  obtain rfl := Q.run_pure_some h2
  have hn : boxN ((S0.wrs ws).E (.r (.l d))) = 0 ∨ boxN ((S0.wrs ws).E (.r (.l d))) = cs.length := by
    simpa using hg
  obtain ⟨R, hm, _⟩ := M.rel.newBox (r := .l d) (cs := cs) (vs := vs) (e := e) rfl (by simp) hl hn hx
  have hγ : S0.γ (.r (.l d)) + 1 ≤ (S0.wrs (cellWrs (.l d) 0 cs ({ k := .r (.l d), v := sizeV cs.length } :: ws))).γ (.r (.l d)) := by
    refine Nat.le_trans ?_ (cellWrs_E S0 (.l d) cs 0 ({ k := .r (.l d), v := sizeV cs.length } :: ws) (.r (.l d))).2.2.2
    simp only [St.wrs, St.γ_wr, if_true]
    have := St.γ_wrs_le S0 ws (.r (.l d))
    simp; exact this
  exact R.aft (M.mono.trans hm) hd (.one (.ptr (k := .h 0) ⟨_, rfl⟩ hγ (fun _ => ⟨_, 0, boxL_new, rfl⟩)))

theorem ev_alloc (R : Rel nm N S a w L) (hd : ∀ d, o.dst = some d → d < N) {t : TypeId} {zs : List C} (ho : o.op = .alloc t) (hz : zeroC P t = some zs)
    (hr : (evOp Cl d (.alloc zs)).run S = some r) : OpsTo P a w o (Aft nm N S w L a o.dst r.1 r.2) := by
  simp only [evOp] at hr
  obtain ⟨i, z, h1, h2, h3, h4, h5⟩ := zeroC_inv hz
  refine .val (v := .pointer (some ⟨w.heap.size, 0, none⟩)) (w' := w.alloc (.cells z.cells t)) ?_ (boxed_rep (Mid.init R) (m := 0) h3.symm (fun j x v hx hv => (h5 j x v hx hv).rep _ _ _ _ _) hr hd)
  have : (Instr.alloc t true (.tuple #[])).run P w = .ok (.pointer (some ⟨w.heap.size, 0, none⟩)) (w.alloc (.cells z.cells t)) := by
    simp [Instr.alloc, zeroValue, typeInfo, h1, h2, newVar, newRow]
  simp [execOp, ho, this]

theorem st_live {c : C} {r : C × List Wr} (h : (st ws c).run S = some r) : c ≠ .dead := by
  rintro rfl
  simp [st] at h
theorem stL_live : ∀ (cs : List C) {ws : List Wr} {r : List C × List Wr}, (stL ws cs).run S = some r → ∀ c ∈ cs, c ≠ .dead
  | [], _, _, _, c, hc => by simp at hc
  | x :: cs, ws, r, h, c, hc => by
    simp only [stL] at h
    obtain ⟨r1, h1, h2⟩ := Q.run_bind_some h
    obtain ⟨r2, h3, _⟩ := Q.run_bind_some h2
    rcases List.mem_cons.1 hc with rfl | hc
    · exact st_live h1
    · exact stL_live cs h3 c hc

/-- The cells of a value under way. -/
theorem LimV.cells {γ0 γ : Key → Nat} (hs : Step w0 w L0 L γ0 γ) {m : Nat} {x : V} {v : Value} (h : LimV nm w0 L0 γ0 w L γ m x v) (hx : ∀ vs, x ≠ .tup vs) (hl : ∀ c ∈ x.cells, c ≠ .dead) :
    x.cells.length = v.cells.size ∧ ∀ (j : Nat) c u, x.cells[j]? = some c → v.cells[j]? = some u → LimC nm w0 L0 γ0 w L γ m j c u := by
  cases x with
  | one c =>
    have hc : LimC nm w0 L0 γ0 w L γ m 0 c v := h
    have h1 := (hc.rep hs).oneCell (hl c (by simp [V.cells]))
    have hv : v.cells = #[v] := by cases v <;> first | rfl | simp [Value.oneCell'] at h1
    rw [hv]
    refine ⟨rfl, fun j c' u h2 h3 => ?_⟩
    cases j with
    | zero => simp [V.cells] at h2 h3; subst h2; subst h3; exact hc
    | succ j => simp [V.cells] at h2
  | agg cs =>
    obtain ⟨vs, rfl, h1, h2⟩ := h
    exact ⟨h1, h2⟩
  | tup vs => exact absurd rfl (hx vs)

theorem tk_tup {x : X} {ws : List Wr} {r : V × List Wr} (h : (tk ws x).run S = some r) : True := trivial

theorem wholesome {v : V} {n : Nat} (hn : n ≠ 0) {cs : List C} (h : cs.length = n) (hv : cs.length = v.cells.length) : ∀ vs, v ≠ .tup vs := by
  rintro vs rfl
  have : cs.length = 0 := hv
  omega

/-- An operand, its cells fit to be stored. -/
theorem part_rep (M : Mid nm N S0 w0 L0 ws a w L) (R0 : Rel nm N S0 a w0 L0) {m : Nat} (hm : FreeH L m) {x : Operand} {X : Abs.X} (hx : OpRel nm X x) (hok : X.okC = true) {v : V} {ws1 : List Wr} (h1 : (tk ws X).run S0 = some (v, ws1)) {cs : List C} {ws2 : List Wr}
    (h2 : (stL ws1 v.cells).run S0 = some (cs, ws2)) (hn : cs.length ≠ 0) :
    ∃ L', Out nm N S0 w0 L0 ws ws2 a w L L' (fun q => q.k ≠ .h m) m ∧ cs.length = (a.eval x).cells.size ∧
      ∀ (j : Nat) c u, cs[j]? = some c → (a.eval x).cells[j]? = some u → RepC nm w L' (S0.wrs ws2).γ (.h m) j c u := by
  obtain ⟨L1, O1, V1⟩ := tk_rep M R0 hm hok hx h1
  have hlen : cs.length = v.cells.length := by
    have : ∀ (l : List C) (ws : List Wr) (r : List C × List Wr), (stL ws l).run S0 = some r → r.1.length = l.length := by
      intro l
      induction l with
      | nil => intro ws r h; simp only [stL] at h; obtain rfl := Q.run_pure_some h; rfl
      | cons y l ih =>
        intro ws r h
        simp only [stL] at h
        obtain ⟨r1, g1, g2⟩ := Q.run_bind_some h
        obtain ⟨r2, g3, g4⟩ := Q.run_bind_some g2
        obtain rfl := Q.run_pure_some g4
        simp [ih _ _ g3]
    exact this _ _ _ h2
  have hnt : ∀ vs, v ≠ .tup vs := wholesome hn rfl hlen
  obtain ⟨c1, c2⟩ := V1.cells O1.mid.stp hnt (stL_live _ h2)
  obtain ⟨L2, O2, l2, R2⟩ := stL_rep (m := m) v.cells O1.mid 0 (fun j => (a.eval x).cells.getD j undef) (fun j c hc => by
    have hj : j < (a.eval x).cells.size := by rw [← c1]; exact (List.getElem?_eq_some_iff.1 hc).1
    have := c2 j c _ hc (Array.getElem?_eq_getElem hj)
    simpa [Array.getD, hj] using this) h2
  refine ⟨L2, (O1.weaken (fun _ _ => trivial)).trans (O2.weaken (fun q hq h => hq h.1)), by rw [← c1]; exact l2, ?_⟩
  intro j c u hc hu
  have := R2 j c hc
  simpa [Array.getD_eq_getD_getElem?, hu] using this

theorem ev_box (R : Rel nm N S a w L) (hH : NoH L) (hd : ∀ d, o.dst = some d → d < N) {t : TypeId} {n : Nat} {x : Operand} {X : Abs.X} (hx : OpRel nm X x) (hok : X.okC = true) (ho : o.op = .box t x) (hn : n ≠ 0)
    (hr : (evOp Cl d (.box n X)).run S = some r) : OpsTo P a w o (Aft nm N S w L a o.dst r.1 r.2) := by
  simp only [evOp] at hr
  obtain ⟨⟨v, ws1⟩, h1, h2⟩ := Q.run_bind_some hr
  clear hr
  obtain ⟨⟨cs, ws2⟩, h3, h4⟩ := Q.run_bind_some h2
  clear h2
  obtain ⟨hg, h5⟩ := Q.run_guard_some h4
  clear h4
  simp only [beq_iff_eq] at hg
  obtain ⟨L', O, hl, hc⟩ := part_rep (Mid.init R) R (m := 0) (fun B q o hB e => by have := hH B q o hB; rw [e] at this; simp [Key.isPl] at this) hx hok h1 h3 (by omega)
  refine .val (v := .pointer (some ⟨w.heap.size, 0, none⟩)) (w' := w.alloc (.cells (a.eval x).cells t)) ?_ (boxed_rep O.mid hl hc h5 hd)
  have : (Instr.box t (a.eval x)).run P w = .ok (.pointer (some ⟨w.heap.size, 0, none⟩)) (w.alloc (.cells (a.eval x).cells t)) := by
    simp [Instr.box, newVar, newRow]
  simp [execOp, ho, this]
end
end Go.Abs
