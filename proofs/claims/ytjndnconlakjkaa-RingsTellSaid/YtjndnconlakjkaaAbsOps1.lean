/- Operations that only compute. -/
import Derived.Test.YtjndnconlakjkaaAbsOps
set_option linter.unusedVariables false
set_option linter.unusedSimpArgs false
namespace Go.Abs
section
variable {nm : FuncId → Option Nat} {N : Nat} {S : St} {a : Act} {w : World} {L : LabF} {P : Program} {o : Oper} {Cl : Oracle} {d : Nat} {r : V × List Wr}

theorem bytes_size (s : List UInt8) : (⟨s.toArray⟩ : ByteArray).size = s.length := by
  show s.toArray.size = s.length
  simp

theorem ev_nilck (R : Rel nm N S a w L) (hd : ∀ d, o.dst = some d → d < N) {x : Operand} {X : Abs.X} (hx : OpRel nm X x) (ho : o.op = .nilCheck x) (hr : (evOp Cl d (.nilck X)).run S = some r) :
    OpsTo P a w o (Aft nm N S w L a o.dst r.1 r.2) := by
  simp only [evOp] at hr
  obtain ⟨v, h1, h2⟩ := Q.run_bind_some hr
  have hv := rd_val R hx h1
  have run : ∀ (u : Value), a.eval x = u → (∃ ad, u = .pointer (some ad)) ∨ (∃ f b c, u = .func (.func f) b c) → (execOp a.eval o).run P w = .ok (.value (a.eval x)) w := by
    intro u hu h
    rcases h with ⟨ad, rfl⟩ | ⟨f, b, c, rfl⟩ <;> simp [execOp, ho, hu]
  split at h2
  · obtain rfl := Q.run_pure_some h2
    refine opVal R hd (run _ rfl (.inl ?_)) hv
    cases hv.one_inv with | ptr hv => exact hv
  · obtain rfl := Q.run_pure_some h2
    refine opVal R hd (run _ rfl (.inl ?_)) hv
    cases hv.one_inv with | eptr hv => exact hv
  · obtain rfl := Q.run_pure_some h2
    refine opVal R hd (run _ rfl (.inl ?_)) hv
    generalize a.eval x = u at hv
    cases hv.one_inv with | pp => exact ⟨_, rfl⟩
  · obtain rfl := Q.run_pure_some h2
    refine opVal R hd (run _ rfl (.inr ?_)) hv
    generalize a.eval x = u at hv
    cases hv.one_inv with | fn => exact ⟨_, _, _, rfl⟩
  · cases h2

theorem ev_pick (R : Rel nm N S a w L) (hd : ∀ d, o.dst = some d → d < N) {c x y : Operand} {C' X Y : Abs.X} (hc : OpRel nm C' c) (hx : OpRel nm X x) (hy : OpRel nm Y y) (ho : o.op = .pick c x y) (hr : (evOp Cl d (.pick C' X Y)).run S = some r) :
    OpsTo P a w o (Aft nm N S w L a o.dst r.1 r.2) := by
  simp only [evOp] at hr
  obtain ⟨v, h1, h2⟩ := Q.run_bind_some hr
  have hv := rd_val R hc h1
  split at h2
  · obtain ⟨v2, h3, h4⟩ := Q.run_bind_some h2
    obtain rfl := Q.run_pure_some h4
    exact opVal R hd (by simp [execOp, ho, hv.one_inv.bool_inv, asBool]) (rd_val R hx h3)
  · obtain ⟨v2, h3, h4⟩ := Q.run_bind_some h2
    obtain rfl := Q.run_pure_some h4
    exact opVal R hd (by simp [execOp, ho, hv.one_inv.bool_inv, asBool]) (rd_val R hy h3)
  · cases h2

theorem ev_len (R : Rel nm N S a w L) (hd : ∀ d, o.dst = some d → d < N) {x : Operand} {X : Abs.X} {t : TypeId} {str : Bool} (hx : OpRel nm X x) (ho : o.op = .call ⟨.builtin .len, #[x], #[t]⟩)
    (ht : if str = true then P.underlying t = some .string else ∃ e, P.underlying t = some (.slice e)) (hr : (evOp Cl d (.len str X)).run S = some r) :
    OpsTo P a w o (Aft nm N S w L a o.dst r.1 r.2) := by
  cases str with
  | true =>
    simp only [if_true] at ht
    simp only [evOp] at hr
    obtain ⟨v, h1, h2⟩ := Q.run_bind_some hr
    have hv := rd_val R hx h1
    split at h2
    · rename_i s
      obtain rfl := Q.run_pure_some h2
      refine opVal R hd (v := .int .i64 s.length) ?_ (.one (.d (.plain .int)))
      rw [execOp_builtin ho, show (#[x] : Array Operand).map a.eval = #[a.eval x] from by simp]
      refine run_v ?_
      show (Builtin.len_ #[t] _ #[a.eval x]).run P w = _
      rw [hv.one_inv.str_inv]
      simp [Builtin.len_, run_underlying ht, goInt, bytes_size]
    · cases h2
  | false =>
    simp only [Bool.false_eq_true, if_false] at ht
    obtain ⟨e, ht⟩ := ht
    simp only [evOp] at hr
    obtain ⟨v, h1, h2⟩ := Q.run_bind_some hr
    have hv := rd_val R hx h1
    have run : ∀ (n : Nat), (∃ b c, a.eval x = .slice b n c) → (execOp a.eval o).run P w = .ok (.value (.int .i64 n)) w := by
      rintro n ⟨b, c, hb⟩
      rw [execOp_builtin ho, show (#[x] : Array Operand).map a.eval = #[a.eval x] from by simp]
      refine run_v ?_
      show (Builtin.len_ #[t] _ #[a.eval x]).run P w = _
      rw [hb]
      simp [Builtin.len_, run_underlying ht, goInt]
    split at h2
    · rename_i t' sz rows
      obtain rfl := Q.run_pure_some h2
      refine opVal R hd (run rows.length ?_) (.one (.d (.plain .int)))
      generalize a.eval x = u at hv
      cases hv.one_inv with
      | d h =>
        cases h with
        | plain h =>
          cases h with
          | nil => exact ⟨_, _, rfl⟩
          | plE => exact ⟨_, _, rfl⟩
          | pl => exact ⟨_, _, rfl⟩
        | ownE => exact ⟨_, _, rfl⟩
        | own => exact ⟨_, _, rfl⟩
    · rename_i pl g sz off len
      obtain rfl := Q.run_pure_some h2
      refine opVal R hd (run len ?_) (.one (.d (.plain .int)))
      generalize a.eval x = u at hv
      cases hv.one_inv with
      | view hv => obtain ⟨b, c, rfl, _⟩ := hv; exact ⟨_, _, rfl⟩
    · cases h2
end
end Go.Abs
