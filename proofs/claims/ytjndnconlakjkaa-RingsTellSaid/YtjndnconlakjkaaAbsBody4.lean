/- The evaluator is sound: functions. -/
import Derived.Test.YtjndnconlakjkaaAbsBody3
set_option linter.unusedVariables false
set_option linter.unusedSimpArgs false
namespace Go.Abs
section
variable {nm : FuncId → Option Nat} {N n : Nat} {S S0 : St} {a : Act} {w : World} {L L0 L' : LabF} {P : Program} {Cl : Oracle}

theorem frame_rel {args : Array Value} {m : Nat} (R : Rel nm n S ⟨args, []⟩ w L) (h : n ≤ m) : Rel nm m S ⟨args ++ Array.replicate (m - args.size) undef, []⟩ w L := by
  have hs : args.size = n := R.size
  refine ⟨by simp [hs]; omega, rfl, fun i => ?_, R.cell, R.bone, R.bound, R.room, R.dom, R.rowInj, R.boxInj⟩
  have := R.slot i
  have e : (args ++ Array.replicate (m - args.size) undef).getD i undef = args.getD i undef := by
    simp only [Array.getD_eq_getD_getElem?]
    by_cases hi : i < args.size
    · rw [Array.getElem?_append_left hi]
    · rw [Array.getElem?_append_right (by omega), Array.getElem?_eq_none (show args.size ≤ i by omega)]
      by_cases h2 : i - args.size < m - args.size
      · rw [Array.getElem?_replicate, if_pos h2]; rfl
      · rw [Array.getElem?_replicate, if_neg h2]
  show RepV nm w L S.γ (.s i) (S.E (.s i)) ((args ++ Array.replicate (m - args.size) undef).getD i undef)
  rw [e]
  exact this

theorem body_sound (hmx : P.follows .mixedOrders = true) (hc : CallOk P nm Cl) {hh : Hint} {fg : Bool} {f : Func} {fid : FuncId} {fn : IFunc} (hf : P.funcs[fid]? = some f) (hname : (f.name == "runtime.NumGoroutine") = false)
    (hcomp : compF P nm hh f fg = some fn) {vs : List V} {bx : List (List C)} {r : V} {out : List (List C)} (he : evBody Cl n fn vs bx = some (r, out))
    {args : Array Value} (R : Rel nm vs.length (argEnts 0 vs ++ boxesEnts 0 bx) ⟨args, []⟩ w L) (hH : NoH L) (hE : ∀ B i o, L B = some (.box (.e i) o) → i < bx.length) :
    FnTo P fid args w fun v w' => ∃ L', Mono w w' L L' ∧ Rel nm 0 (boxesEnts 0 out) ⟨#[], []⟩ w' L' ∧ RepV nm w' L' (fun _ => 0) (.h 0) r v := by
  unfold compF at hcomp
  obtain ⟨c, hb, h1⟩ := bind_some hcomp
  clear hcomp
  split at h1
  · cases h1
  rename_i hnt
  have hnt : hh.nt = f.ntmps := Classical.not_not.1 hnt
  obtain ⟨ic, h2, h3⟩ := bind_some h1
  clear h1
  obtain ⟨Rs, h4, h5⟩ := bind_some h3
  clear h3
  cases h5
  unfold evBody at he
  split at he
  rotate_left
  · cases he
  rename_i hargs
  obtain ⟨⟨e, Sf⟩, h6, h7⟩ := Option.bind_eq_some_iff.1 he
  clear he
  have hrun : (callFunc fid args).run P w = .ok (.enter fid args) w := by
    have hname' : ¬ f.name = "runtime.NumGoroutine" := by simpa using hname
    simp [callFunc, hf, hname', hb]
  unfold FnTo
  rw [hrun]
  refine calls_of_wp hf hb (code_sound hmx hc hnt n c h2 h6 (frame_rel R hargs) hH ?_)
  intro a' w' L1 D
  have fin : ∀ {rr : V × List (List C)}, (evRet ⟨f.ntmps, Rs, ic, fg⟩ bx).run Sf = some rr → rr = (r, out) → a'.defers = [] ∧ ∃ v, (results f a'.tmps).run P w' = .ok v w' ∧ ∃ v', Ending.returned v = .returned v' ∧ ∃ L', Mono w w' L L' ∧ Rel nm 0 (boxesEnts 0 out) ⟨#[], []⟩ w' L' ∧ RepV nm w' L' (fun _ => 0) (.h 0) r v' := by
    intro rr hrr heq
    subst heq
    obtain ⟨us, L2, k1, k2, ⟨L3, k3, k4⟩, k5, k6⟩ := evRet_rep D.rel D.noH h4 hrr
    refine ⟨D.rel.defers, _, run_results k1 k2, _, rfl, L2, ?_, k5, k6⟩
    have m1 := D.mono.trans k3
    refine ⟨m1.os, m1.tape, m1.output, m1.size, fun B hB => ⟨k4.imm B (m1.imm B hB).1, (m1.imm B hB).2⟩, fun B hl hB => ⟨k4.none B (m1.none B hl hB).1, (m1.none B hl hB).2⟩, fun B i o hB => k4.ebox B i o (hE B i o hB) (m1.ebox B i o hB)⟩
  cases e with
  | norm => exact fin h7 rfl
  | ret => exact fin h7 rfl
  | exit id => simp at h7

/-- The table of the functions that are evaluated. -/
structure TabOk (P : Program) (nm : FuncId → Option Nat) (T : Nat → Option IFunc) : Prop where
  mixed : P.follows .mixedOrders = true
  fn : ∀ {f : Nat} {fn : IFunc} {fid : FuncId}, T f = some fn → nm fid = some f → ∃ g hh fg, P.funcs[fid]? = some g ∧ (g.name == "runtime.NumGoroutine") = false ∧ compF P nm hh g fg = some fn

/-- What stands for the functions that are not evaluated. -/
def PrimOk (P : Program) (nm : FuncId → Option Nat) (T : Nat → Option IFunc) (prim : Oracle) : Prop :=
  ∀ {f : Nat} {vs : List V} {bx : List (List C)} {r : V} {out : List (List C)} {fid : FuncId}, T f = none → prim f vs bx = some (r, out) → nm fid = some f →
    ∀ {args : Array Value} {w : World} {L : LabF}, Rel nm vs.length (argEnts 0 vs ++ boxesEnts 0 bx) ⟨args, []⟩ w L → NoH L → (∀ B i o, L B = some (.box (.e i) o) → i < bx.length) →
      FnTo P fid args w fun v w' => ∃ L', Mono w w' L L' ∧ Rel nm 0 (boxesEnts 0 out) ⟨#[], []⟩ w' L' ∧ RepV nm w' L' (fun _ => 0) (.h 0) r v

/-- The evaluator is sound. -/
theorem evN_sound {T : Nat → Option IFunc} {prim : Oracle} (hT : TabOk P nm T) (hp : PrimOk P nm T prim) (n : Nat) : OSound P nm (evN T prim n) := by
  induction n with
  | zero => intro f vs bx r out fid h; simp [evN] at h
  | succ n ih =>
    intro f vs bx r out fid h hn args w L R hH hE
    simp only [evN] at h
    split at h
    · rename_i fn hfn
      obtain ⟨g, hh, fg, h1, h2, h3⟩ := hT.fn hfn hn
      exact body_sound hT.mixed (callOk_of ih) h1 h2 h3 h R hH hE
    · rename_i hfn
      exact hp hfn h hn R hH hE
end
end Go.Abs
