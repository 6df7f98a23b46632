/- What the functions that the law reaches answer, in plain data. -/
import Derived.Test.YtgokmelgnmejlaaDoorT
import Derived.Test.YtgokmelgnmejlaaDoorAbs9
import Derived.KernelRfl
set_option maxRecDepth 100000
set_option maxHeartbeats 4000000
set_option linter.unusedVariables false
namespace Go.Proofs.YtgokmelgnmejlaaDoor
open Go Go.Abs
theorem e3 (m : Nat) (x0 : Int) : T (m + 1) 3 [(.one (iC x0))] [] = t3 (T m) m x0 := by
  rw [T_succ, show step (T m) m 3 = st3 (T m) m from rfl]; unfold st3; rfl
theorem run0 (x : Int) (h : w64 ((wu64 x).tmod (wu64 (natI 14))) = 0) : T 200 3 [.one (iC x)] [] = rT := by
  rw [e3]
  unfold t3
  rw [h]
  kernel_rfl
theorem run1 (x : Int) (h : w64 ((wu64 x).tmod (wu64 (natI 14))) = 1) : T 200 3 [.one (iC x)] [] = rT := by
  rw [e3]
  unfold t3
  rw [h]
  kernel_rfl
theorem run2 (x : Int) (h : w64 ((wu64 x).tmod (wu64 (natI 14))) = 2) : T 200 3 [.one (iC x)] [] = rT := by
  rw [e3]
  unfold t3
  rw [h]
  kernel_rfl
theorem run3 (x : Int) (h : w64 ((wu64 x).tmod (wu64 (natI 14))) = 3) : T 200 3 [.one (iC x)] [] = rT := by
  rw [e3]
  unfold t3
  rw [h]
  kernel_rfl
theorem run4 (x : Int) (h : w64 ((wu64 x).tmod (wu64 (natI 14))) = 4) : T 200 3 [.one (iC x)] [] = rT := by
  rw [e3]
  unfold t3
  rw [h]
  kernel_rfl
theorem run5 (x : Int) (h : w64 ((wu64 x).tmod (wu64 (natI 14))) = 5) : T 200 3 [.one (iC x)] [] = rT := by
  rw [e3]
  unfold t3
  rw [h]
  kernel_rfl
theorem run6 (x : Int) (h : w64 ((wu64 x).tmod (wu64 (natI 14))) = 6) : T 200 3 [.one (iC x)] [] = rT := by
  rw [e3]
  unfold t3
  rw [h]
  kernel_rfl
theorem run7 (x : Int) (h : w64 ((wu64 x).tmod (wu64 (natI 14))) = 7) : T 200 3 [.one (iC x)] [] = rT := by
  rw [e3]
  unfold t3
  rw [h]
  kernel_rfl
theorem run8 (x : Int) (h : w64 ((wu64 x).tmod (wu64 (natI 14))) = 8) : T 200 3 [.one (iC x)] [] = rT := by
  rw [e3]
  unfold t3
  rw [h]
  kernel_rfl
theorem run9 (x : Int) (h : w64 ((wu64 x).tmod (wu64 (natI 14))) = 9) : T 200 3 [.one (iC x)] [] = rT := by
  rw [e3]
  unfold t3
  rw [h]
  kernel_rfl
theorem run10 (x : Int) (h : w64 ((wu64 x).tmod (wu64 (natI 14))) = 10) : T 200 3 [.one (iC x)] [] = rT := by
  rw [e3]
  unfold t3
  rw [h]
  kernel_rfl
theorem run11 (x : Int) (h : w64 ((wu64 x).tmod (wu64 (natI 14))) = 11) : T 200 3 [.one (iC x)] [] = rT := by
  rw [e3]
  unfold t3
  rw [h]
  kernel_rfl
theorem run12 (x : Int) (h : w64 ((wu64 x).tmod (wu64 (natI 14))) = 12) : T 200 3 [.one (iC x)] [] = rT := by
  rw [e3]
  unfold t3
  rw [h]
  kernel_rfl
theorem run13 (x : Int) (h : w64 ((wu64 x).tmod (wu64 (natI 14))) = 13) : T 200 3 [.one (iC x)] [] = rT := by
  rw [e3]
  unfold t3
  rw [h]
  kernel_rfl
theorem kcases (x : Int) : 0 ≤ w64 ((wu64 x).tmod (wu64 (natI 14))) ∧ w64 ((wu64 x).tmod (wu64 (natI 14))) ≤ 13 := by
  have h0 : 0 ≤ wu64 x := by
    show 0 ≤ IntKind.wrap .u64 x
    simp [IntKind.wrap, IntKind.signed, IntKind.bits]
    omega
  have h14 : wu64 (natI 14) = 14 := by decide
  rw [h14]
  have h1 : (wu64 x).tmod 14 = (wu64 x) % 14 := Int.tmod_eq_emod_of_nonneg h0
  rw [h1]
  have h2 : w64 ((wu64 x) % 14) = (wu64 x) % 14 := wrap_i64 (by omega) (by omega)
  rw [h2]
  omega
theorem law (x : Int) : T 200 3 [.one (iC x)] [] = rT := by
  obtain ⟨h0, h1⟩ := kcases x
  generalize hk : w64 ((wu64 x).tmod (wu64 (natI 14))) = k at h0 h1
  have hc : k = 0 ∨ k = 1 ∨ k = 2 ∨ k = 3 ∨ k = 4 ∨ k = 5 ∨ k = 6 ∨ k = 7 ∨ k = 8 ∨ k = 9 ∨ k = 10 ∨ k = 11 ∨ k = 12 ∨ k = 13 := by omega
  rcases hc with rfl | rfl | rfl | rfl | rfl | rfl | rfl | rfl | rfl | rfl | rfl | rfl | rfl | rfl
  · exact run0 x hk
  · exact run1 x hk
  · exact run2 x hk
  · exact run3 x hk
  · exact run4 x hk
  · exact run5 x hk
  · exact run6 x hk
  · exact run7 x hk
  · exact run8 x hk
  · exact run9 x hk
  · exact run10 x hk
  · exact run11 x hk
  · exact run12 x hk
  · exact run13 x hk
end Go.Proofs.YtgokmelgnmejlaaDoor
