/- Plain words for what the printed equations ask. -/
import Derived.Test.YtjndnconlakjkaaAbsK2
set_option linter.unusedVariables false
set_option linter.unusedSimpArgs false
namespace Go.Abs

theorem natI_eq (n : Nat) : natI n = (n : Int) := rfl
theorem asI_nat (n : Nat) : asI (n : Int) = some n := by simp [asI]
theorem asI_of {x : Int} (h : 0 ≤ x) : asI x = some x.toNat := by simp [asI, h]
theorem qOpt_some {β R : Type} (a : β) (k : β → Option R) : qOpt (some a) k = k a := rfl
theorem tRes_some {R : Type} (s : RS) (x : V × List (List C)) (K : s.T → Option R) : tRes s (some x) K = (match decR s x with | some v => K v | none => none) := rfl
theorem tRow_eq {R : Type} {ds : List DS} {l : List D} {v : RowT ds} (K : RowT ds → Option R) (h : decRow ds l = some v) : tRow ds l K = K v := by simp [tRow, h]
theorem tRes_eq {R : Type} {s : RS} {o : Option (V × List (List C))} {x : V × List (List C)} {v : s.T} (K : s.T → Option R) (ho : o = some x) (h : decR s x = some v) : tRes s o K = K v := by subst ho; simp [tRes, h]
theorem wrap_i64 {x : Int} (h : -9223372036854775808 ≤ x) (h' : x ≤ 9223372036854775807) : IntKind.wrap .i64 x = x := by
  simp [IntKind.wrap, IntKind.signed, IntKind.bits]; omega

section
variable (T : Nat → Option IFunc) (prim : Oracle)
/-- With fuel enough the evaluator answers so. -/
def FTo (f : Nat) (vs : List V) (bs : List (List C)) (r : V × List (List C)) : Prop := ∃ N, ∀ n, N ≤ n → evN T prim n f vs bs = some r
theorem FTo.of {T : Nat → Option IFunc} {prim : Oracle} {f : Nat} {k : KFunc} {an : Ann} {vs : List V} {bs : List (List C)} {r : V × List (List C)} (hT : T f = some k.fn)
    (h : ∃ N, ∀ n, N ≤ n → evBodyA an (evN T prim n) n k vs bs = some r) : FTo T prim f vs bs r := by
  obtain ⟨N, h⟩ := h
  refine ⟨N + 1, fun n hn => ?_⟩
  cases n with
  | zero => omega
  | succ n =>
    show (match T f with | some fn => evBody (evN T prim n) n fn vs bs | none => prim f vs bs) = some r
    rw [hT]
    exact evBodyA_inv (h n (by omega))
end
end Go.Abs
