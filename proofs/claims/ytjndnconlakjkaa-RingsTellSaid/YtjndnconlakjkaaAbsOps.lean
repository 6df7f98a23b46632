/- Operations against the model's: frame, operands, what only computes. -/
import Derived.Test.YtjndnconlakjkaaAbsApp2
import Derived.Test.YtjndnconlakjkaaAbsComp
set_option linter.unusedVariables false
set_option linter.unusedSimpArgs false
namespace Go.Abs

def wrsOf (dst : Option Nat) (x : V) (ws : List Wr) : List Wr :=
  match dst with
  | some d => { k := .s d, v := x } :: ws
  | none => ws

/-- What an operation leaves: its value in its slot, its writes. -/
def Aft (nm : FuncId → Option Nat) (N : Nat) (S : St) (w0 : World) (L0 : LabF) (a : Act) (dst : Option Nat) (x : V) (ws : List Wr) (v : Value) (w' : World) : Prop :=
  ∃ L', Done nm N (S.wrs (wrsOf dst x ws)) w0 L0 (a.put dst v) w' L'

/-- What the model's operation comes to. -/
def OpsTo (P : Program) (a : Act) (w : World) (o : Oper) (R : Value → World → Prop) : Prop :=
  match (execOp a.eval o).run P w with
  | .ok (.value v) w' => R v w'
  | .ok .skip w' => R undef w'
  | .ok (.enter f args) w' => Calls P f args w' fun e w'' => ∃ v, e = .returned v ∧ R v w''
  | .ok (.row row args) w' => Rows P row args w' R
  | _ => False

theorem OpsTo.wp {P : Program} {a : Act} {w : World} {o : Oper} {R : Value → World → Prop} (h : OpsTo P a w o R) {next : Act → World → Prop} {Q : Exit → Act → World → Prop}
    (hr : ∀ v w', R v w' → next (a.put o.dst v) w') : o.wp P a w next Q := by
  unfold OpsTo at h
  unfold Oper.wp
  generalize (execOp a.eval o).run P w = r at h ⊢
  cases r with
  | ok n w' =>
    cases n <;> simp only [Oper.upon] at h ⊢ <;> first
      | exact h.elim
      | exact hr _ _ h
      | exact Rows.mono h (fun v w'' => hr v w'')
      | exact Calls.mono h (fun e w'' => by rintro ⟨v, rfl, hR⟩; exact hr v w'' hR)
  | halt x w' => simp only at h

section
variable {nm : FuncId → Option Nat} {N : Nat} {S : St} {a : Act} {w : World} {L : LabF} {P : Program} {o : Oper}

theorem OpsTo.val {R : Value → World → Prop} {v : Value} {w' : World} (h : (execOp a.eval o).run P w = .ok (.value v) w') (hr : R v w') : OpsTo P a w o R := by
  unfold OpsTo; rw [h]; exact hr
theorem OpsTo.skip {R : Value → World → Prop} {w' : World} (h : (execOp a.eval o).run P w = .ok .skip w') (hr : R undef w') : OpsTo P a w o R := by
  unfold OpsTo; rw [h]; exact hr

def dropH : Place → Option Place := fun q => if q.k.isPl = true then some q else none
theorem dropH_inj {q q' t : Place} (h1 : dropH q = some t) (h2 : dropH q' = some t) : q = q' := by
  unfold dropH at h1 h2
  split at h1
  · split at h2
    · simp only [Option.some.injEq] at h1 h2; rw [h1, h2]
    · cases h2
  · cases h1

theorem Rel.aft {S0 : St} {ws : List Wr} {w' : World} {L' : LabF} {w0 : World} {L0 : LabF} (R : Rel nm N (S0.wrs ws) a w' L') (hm : Mono w0 w' L0 L') {dst : Option Nat} (hd : ∀ d, dst = some d → d < N) {m : Nat} {x : V} {v : Value}
    (hv : RepV nm w' L' (S0.wrs ws).γ (.h m) x v) : Aft nm N S0 w0 L0 a dst x ws v w' := by
  cases dst with
  | some d =>
    obtain ⟨L2, h1, h2, h3, _⟩ := R.slotPut (hd d rfl) hv
    exact ⟨L2, h1, hm.trans h3, h2⟩
  | none =>
    refine ⟨relab dropH L', R.relabH (fun q hq => by simp [dropH, hq]) (fun q q' t h1 h2 => dropH_inj h1 h2), hm.trans (relab_mono _), ?_⟩
    intro B q o hB
    obtain ⟨q0, _, h2⟩ := relab_row hB
    unfold dropH at h2
    split at h2
    · rename_i h3; simp only [Option.some.injEq] at h2; rw [← h2]; exact h3
    · cases h2

theorem execOp_builtin {b : Builtin} {args : Array Operand} {ts : Array TypeId} (ho : o.op = .call ⟨.builtin b, args, ts⟩) (ρ : Operand → Value) :
    execOp ρ o = builtin b ts o.type (args.map fun | .const _ => true | _ => false) (args.map ρ) := by
  unfold execOp
  simp only [ho]
  unfold resolve
  simp only
  rfl
theorem run_v {s : Sem Value} {v : Value} {w' : World} (h : s.run P w = .ok v w') : (do pure (Next.value (← s)) : Sem Next).run P w = .ok (.value v) w' := by
  simp [h]

theorem opVal (R : Rel nm N S a w L) (hd : ∀ d, o.dst = some d → d < N) {x : V} {v : Value} (h : (execOp a.eval o).run P w = .ok (.value v) w) (hv : RepV nm w L S.γ (.h 0) x v) :
    OpsTo P a w o (Aft nm N S w L a o.dst x []) :=
  .val h (Rel.aft (ws := []) R (Mono.refl w L) hd hv)

theorem constC_rep {sz : Nat} {v : Value} {c : C} (h : constC sz v = some c) : (∀ (w : World) (L : LabF) (γ : Key → Nat) (k : Key) (j : Nat), RepC nm w L γ k j c v) ∧ c.own = false := by
  unfold constC at h
  split at h
  · cases h; exact ⟨fun _ _ _ _ _ => .d (.plain .int), rfl⟩
  · cases h; exact ⟨fun _ _ _ _ _ => .d (.plain .bool), rfl⟩
  · cases h; exact ⟨fun _ _ _ _ _ => .d (.plain .str), rfl⟩
  · cases h; exact ⟨fun _ _ _ _ _ => .d (.plain .nil), rfl⟩
  · cases h; exact ⟨fun _ _ _ _ _ => .nilp, rfl⟩
  · cases h; exact ⟨fun _ _ _ _ _ => .nilf, rfl⟩
  · cases h; exact ⟨fun _ _ _ _ _ => .nili, rfl⟩
  · cases h

theorem lookX_rel {t : TypeId} {x : Operand} {X : X} (h : lookX P nm t x = some X) : OpRel nm X x ∧ X.okC = true := by
  cases x with
  | tmp i => simp only [lookX, Option.some.injEq] at h; subst h; exact ⟨.s, rfl⟩
  | const v =>
    simp only [lookX, constV] at h
    cases hc : constC ((elemSz P t).getD 0) v with
    | none => simp [hc] at h
    | some c =>
      simp only [hc, Option.map_some, Option.some.injEq] at h
      subst h
      exact ⟨.c fun w L γ k => .one ((constC_rep hc).1 w L γ k 0), by simp [X.okC, V.own, V.cells, (constC_rep (nm := nm) hc).2]⟩
  | func f =>
    simp only [lookX] at h
    cases hf : nm f with
    | none => simp [hf] at h
    | some n => simp only [hf, Option.map_some, Option.some.injEq] at h; subst h; exact ⟨.f hf, rfl⟩
  | global g => simp [lookX] at h

theorem compX_rel {hh : Hint} {t : TypeId} {x : Operand} {X : X} (h : compX P nm hh t x = some X) : OpRel nm X x ∧ X.okC = true := by
  cases x with
  | tmp i =>
    simp only [compX, Option.some.injEq] at h; subst h
    split
    · exact ⟨.t, rfl⟩
    · exact ⟨.s, rfl⟩
  | const v => exact lookX_rel (P := P) (t := t) h
  | func f => exact lookX_rel (P := P) (t := t) h
  | global g => simp [compX] at h

/-- An operand that is only read. -/
theorem rd_val (R : Rel nm N S a w L) {x : Operand} {X : X} (h : OpRel nm X x) {v : V} (hr : (rd X).run S = some v) : RepV nm w L S.γ (.h 0) v (a.eval x) := rd_rep R h hr (.h 0)

theorem RepV.one_inv {γ : Key → Nat} {k : Key} {c : C} {v : Value} (h : RepV nm w L γ k (.one c) v) : RepC nm w L γ k 0 c v := by cases h with | one h => exact h
theorem RepC.int_inv {γ : Key → Nat} {k : Key} {j : Nat} {kk : IntKind} {n : Int} {v : Value} (h : RepC nm w L γ k j (.d (.int kk n)) v) : v = .int kk n := by
  cases h with | d h => cases h with | plain h => cases h; rfl
theorem RepC.bool_inv {γ : Key → Nat} {k : Key} {j : Nat} {b : Bool} {v : Value} (h : RepC nm w L γ k j (.d (.bool b)) v) : v = .bool b := by
  cases h with | d h => cases h with | plain h => cases h; rfl
theorem RepC.str_inv {γ : Key → Nat} {k : Key} {j : Nat} {b : List UInt8} {v : Value} (h : RepC nm w L γ k j (.d (.str b)) v) : v = .string ⟨b.toArray⟩ := by
  cases h with | d h => cases h with | plain h => cases h; rfl

theorem asNat_inv {γ : Key → Nat} {k : Key} {x : V} {n : Nat} {v : Value} (h : RepV nm w L γ k x v) (hn : asNat x = some n) : ∃ kk, v = .int kk n := by
  unfold asNat at hn
  split at hn
  · rename_i kk m
    split at hn
    · rename_i h0
      simp only [Option.some.injEq] at hn
      refine ⟨kk, ?_⟩
      rw [h.one_inv.int_inv, ← hn, Int.toNat_of_nonneg h0]
    · cases hn
  · cases hn

theorem evOp_bad {Cl : Oracle} {d : Nat} {r : V × List Wr} : ¬ (evOp Cl d .bad).run S = some r := by simp [evOp]

theorem Q.run_bind_some {α β : Type} {x : Q α} {f : α → Q β} {r : β} (h : (x >>= f).run S = some r) : ∃ a, x.run S = some a ∧ (f a).run S = some r := by
  rw [Q.run_bind] at h
  cases hx : x.run S with
  | none => simp [hx] at h
  | some a => exact ⟨a, rfl, by simpa [hx] using h⟩
theorem Q.run_guard_some {α : Type} {b : Bool} {f : Unit → Q α} {r : α} (h : (Q.guard b >>= f).run S = some r) : b = true ∧ (f ()).run S = some r := by
  obtain ⟨u, h1, h2⟩ := Q.run_bind_some h
  rw [Q.run_guard] at h1
  split at h1
  · exact ⟨‹_›, h2⟩
  · cases h1
theorem Q.run_ofO_some {α β : Type} {x : Option α} {f : α → Q β} {r : β} (h : (Q.ofO x >>= f).run S = some r) : ∃ y, x = some y ∧ (f y).run S = some r := by
  obtain ⟨u, h1, h2⟩ := Q.run_bind_some h
  rw [Q.run_ofO] at h1
  exact ⟨u, h1, h2⟩
theorem Q.run_at_some {β : Type} {k : Key} {f : Ent → Q β} {r : β} (h : (Q.at_ k >>= f).run S = some r) : (f (S.get k)).run S = some r := by
  obtain ⟨u, h1, h2⟩ := Q.run_bind_some h
  simp only [Q.run_at, Option.some.injEq] at h1
  rw [h1]; exact h2
theorem Q.run_pure_some {α : Type} {x r : α} (h : (pure x : Q α).run S = some r) : r = x := by simpa using h.symm
end
end Go.Abs
