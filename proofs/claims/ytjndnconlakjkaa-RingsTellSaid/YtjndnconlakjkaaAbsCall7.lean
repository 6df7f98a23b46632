/- Calls: what a call comes to. -/
import Derived.Test.YtjndnconlakjkaaAbsCall6
set_option linter.unusedVariables false
set_option linter.unusedSimpArgs false
namespace Go.Abs
section
variable {nm : FuncId → Option Nat} {P : Program} {Cl : Oracle}

def AllRep (nm : FuncId → Option Nat) (w : World) (L : LabF) (γ : Key → Nat) (l : List V) (us : Array Value) : Prop :=
  us.size = l.length ∧ cleanVs l = true ∧ ∀ (j : Nat) x u, l[j]? = some x → us[j]? = some u → RepV nm w L γ (.h 0) x u

theorem cleanVs_app : ∀ {l m : List V}, cleanVs l = true → cleanVs m = true → cleanVs (l ++ m) = true
  | [], m, _, h => h
  | x :: t, m, h1, h2 => by
    simp only [cleanVs, Bool.and_eq_true] at h1
    simp only [List.cons_append, cleanVs, Bool.and_eq_true]
    exact ⟨h1.1, cleanVs_app h1.2 h2⟩
theorem cleanVs_ones : ∀ {l : List C}, cleanL l = true → cleanVs (l.map V.one) = true
  | [], _ => rfl
  | x :: t, h => by
    simp only [cleanL, Bool.and_eq_true] at h
    simp only [List.map_cons, cleanVs, V.clean, Bool.and_eq_true]
    exact ⟨h.1, cleanVs_ones h.2⟩

theorem AllRep.app {w : World} {L : LabF} {γ : Key → Nat} {l m : List V} {us vs : Array Value} (h1 : AllRep nm w L γ l us) (h2 : AllRep nm w L γ m vs) : AllRep nm w L γ (l ++ m) (us ++ vs) := by
  refine ⟨by simp [h1.1, h2.1], cleanVs_app h1.2.1 h2.2.1, fun j x u hx hu => ?_⟩
  by_cases hj : j < l.length
  · rw [List.getElem?_append_left hj] at hx
    rw [Array.getElem?_append_left (by rw [h1.1]; exact hj)] at hu
    exact h1.2.2 j x u hx hu
  · rw [List.getElem?_append_right (by omega)] at hx
    rw [Array.getElem?_append_right (by rw [h1.1]; omega), h1.1] at hu
    exact h2.2.2 _ x u hx hu

theorem opsTo_fn {a : Act} {w : World} {o : Oper} {fid : FuncId} {args : Array Value} {R : Value → World → Prop} (he : (execOp a.eval o).run P w = (callFunc fid args).run P w) (h : FnTo P fid args w R) : OpsTo P a w o R := by
  unfold FnTo at h
  unfold OpsTo
  rw [he]
  split at h
  · rename_i hx; rw [hx]; exact h
  · rename_i hx; rw [hx]; exact h
  · rename_i hx; rw [hx]; exact h
  · rename_i hx; rw [hx]; exact h
  · exact h.elim

theorem callOk_of (hO : OSound P nm Cl) : CallOk P nm Cl := by
  intro N S a w L o d r c f F xs R hH hd ho hcal hF hFok hlen hxs hr
  simp only [evOp] at hr
  obtain ⟨vf, h1, h2⟩ := Q.run_bind_some hr
  have hv := rd_val R hF h1
  split at h2
  rotate_left
  · cases h2
  rename_i n first cap
  clear hr
  obtain ⟨⟨vs, ws⟩, h3, h4⟩ := Q.run_bind_some h2
  clear h2
  have hfn := hv.one_inv
  generalize hfv : a.eval f = fv at hfn
  cases hfn with | @fn _ _ _ fid fs cs hf g1 g2 hcl g3 g4 =>
  obtain ⟨L1, M, hH1, hst, hl1, hcl1, hrep1⟩ := rdArgs_rep R xs c.args.toList (Mid.init R) hH hlen hxs h3
  dsimp only at h4
  have mv : ∀ {x : C} {u : Value}, x.clean = true → RepC nm w L S.γ (.h 0) 0 x u → RepC nm w L1 (S.wrs ws).γ (.h 0) 0 x u := by
    intro x u hx h
    exact h.step (k' := .h 0) (j' := 0) hst (fun B q o hq _ hB => by have := hH B q o hB; rw [hq] at this; simp [Key.isPl] at this)
  have rep : AllRep nm w L1 (S.wrs ws).γ (first.map .one ++ vs ++ cap.map .one) (fs ++ c.args.map a.eval ++ cs) := by
    refine AllRep.app (AllRep.app ⟨by simp [g1], cleanVs_ones hcl.1, ?_⟩ ⟨by simp [hl1], hcl1, ?_⟩) ⟨by simp [g2], cleanVs_ones hcl.2, ?_⟩
    · intro j x u hx hu
      rw [List.getElem?_map] at hx
      obtain ⟨y, hy, rfl⟩ := map_some' hx
      exact .one (mv (cleanL_get hcl.1 hy) (g3 j y u hy hu))
    · intro j x u hx hu
      rw [Array.getElem?_map] at hu
      obtain ⟨p, hp, rfl⟩ := map_some' hu
      exact hrep1 j x p hx (by simpa using hp)
    · intro j x u hx hu
      rw [List.getElem?_map] at hx
      obtain ⟨y, hy, rfl⟩ := map_some' hx
      exact .one (mv (cleanL_get hcl.2 hy) (g4 j y u hy hu))
  generalize hvs : first.map V.one ++ vs ++ cap.map V.one = vall at rep h4
  generalize hus : fs ++ c.args.map a.eval ++ cs = uall at rep
  have he : (execOp a.eval o).run P w = (callFunc fid uall).run P w := by
    subst hus
    simp [execOp, ho, resolve, hcal, Deferred.ofValue, hfv, invoke]
  refine opsTo_fn he ?_
  -- the evaluator's call
  simp only [callF] at h4
  obtain ⟨_, k1, k2⟩ := Q.run_bind_some h4
  clear h4
  obtain ⟨⟨rs, bs⟩, k3, k4⟩ := Q.run_bind_some k2
  clear k2
  dsimp only at k4
  obtain ⟨vs', k5, k6⟩ := Q.run_ofO_some k4
  clear k4
  obtain ⟨bs', k7, k8⟩ := Q.run_ofO_some k6
  clear k6
  obtain ⟨⟨rv, out⟩, k9, k10⟩ := Q.run_ofO_some k8
  clear k8
  dsimp only at k10
  obtain ⟨e1, e2, e3, e4, e5, e6, e7⟩ := enter_rel M (liveAll_inv _ k1) k3 k5 k7 rep.1 rep.2.1 rep.2.2
  have hEx : ∀ B i o, enterL rs (S.wrs ws).E L1 B = some (.box (.e i) o) → i < bs'.length := by
    intro B i o hB
    rcases enterL_back hB with ⟨h, _⟩ | ⟨r, o', i', h, _, hi⟩ | ⟨_, _, _, _, _, _, _, h, _⟩
    · cases h
    · simp only [Lab.box.injEq, Root.e.injEq] at h
      obtain ⟨rfl, rfl⟩ := h
      rw [e6]
      have := (rootIdx_inv rs hi).2
      exact (List.getElem?_eq_some_iff.1 this).1
    · cases h
  refine (hO k9 hf e1 e2 hEx).mono ?_
  rintro v w' ⟨Lc', m1, m2, m3⟩
  have hG : ∀ r ∈ rs, r.isG = false := fun r hr => (e4 r hr).2
  rw [Q.run_ite] at k10
  split at k10
  · -- nothing but a flat value
    rename_i hc
    simp only [Bool.and_eq_true, List.isEmpty_iff] at hc
    obtain ⟨⟨hrs, hfl⟩, hout⟩ := hc
    obtain rfl := Q.run_pure_some k10
    subst hrs
    have hL0 : ∀ {B l}, L B = some l → enterL [] (S.wrs ws).E L1 B = none ∨ enterL [] (S.wrs ws).E L1 B = some .imm := by
      intro B l hB
      cases hx : enterL [] (S.wrs ws).E L1 B with
      | none => exact .inl rfl
      | some l2 =>
        right
        rcases enterL_back hx with ⟨rfl, _⟩ | ⟨_, _, _, _, _, h⟩ | ⟨_, _, _, _, _, _, _, _, _, h, _⟩
        · rfl
        · simp [rootIdx] at h
        · simp [rootIdx] at h
    have hlt : ∀ {B l}, L B = some l → B < w.heap.size := by
      intro B l hB
      obtain ⟨cur, e, fz, h⟩ := R.dom B l hB
      exact (Array.getElem?_eq_some_iff.1 h).1
    have hheap : ∀ B l, L B = some l → w'.heap[B]? = w.heap[B]? := by
      intro B l hB
      rcases hL0 hB with h | h
      · exact (m1.none B (hlt hB) h).2
      · exact (m1.imm B h).2
    have R' := R.grown hheap
    have hm : Mono w w' L L := by
      refine ⟨m1.os, m1.tape, m1.output, m1.size, fun B hB => ⟨hB, hheap B _ hB⟩, fun B hB hL => ⟨hL, ?_⟩, fun _ _ _ h => h⟩
      have h1 := (M.mono.none B hB hL).1
      exact (m1.none B hB (by simp [enterL, h1])).2
    exact Rel.aft (ws := []) R' hm hd (m := 0) (m3.flat hfl)
  obtain ⟨gs, k11, k12⟩ := Q.run_bind_some k10
  clear k10
  have hgs := gensOf_inv k11
  have hle := fun k => St.γ_wrs_le S ws k
  rw [Q.run_ite] at k12
  split at k12
  · -- the boxes come back
    rename_i hout
    obtain ⟨r', k13, k14⟩ := Q.run_ofO_some k12
    clear k12
    obtain ⟨bs2, k15, k16⟩ := Q.run_ofO_some k14
    clear k14
    obtain ⟨k17, k18⟩ := Q.run_guard_some k16
    obtain rfl := Q.run_pure_some k18
    have hl2 : bs2.length = rs.length := by rw [outBs_length k15, hout]
    have X := exitB e3 e5 hl2 k17 e4 e7 M.rel.bound
    obtain ⟨x1, x2, x3, x4⟩ := exit_rel (gs := gs) M.rel hH1 e3 ⟨[], by simp⟩ hG (fun r h1 h2 => absurd h1 h2) rfl m1 m2 X
      (fun i => by rw [hgs, List.getElem?_map]; cases rs[i]? <;> rfl)
      (fun i r g h => by
        rw [hgs, List.getElem?_map] at h
        obtain ⟨r0, h1, h2⟩ := map_some' h
        simp only [Prod.mk.injEq] at h2
        obtain ⟨rfl, rfl⟩ := h2
        exact St.γ_wrs_le S _ _) k15
    exact Rel.aft x1 (M.mono.trans x2) hd (m := 0) (m3.back x3 k13 x4)
  · -- a new one too
    obtain ⟨e, k13, k14⟩ := Q.run_bind_some k12
    clear k12
    rw [atP_run] at k13
    simp only [Option.some.injEq] at k13
    subst k13
    dsimp only at k14
    obtain ⟨r', k15, k16⟩ := Q.run_ofO_some k14
    clear k14
    obtain ⟨bs2, k17, k18⟩ := Q.run_ofO_some k16
    clear k16
    obtain ⟨k19, k20⟩ := Q.run_guard_some k18
    clear k18
    obtain rfl := Q.run_pure_some k20
    simp only [Bool.and_eq_true, beq_iff_eq, Bool.or_eq_true, Bool.not_eq_true'] at k19
    obtain ⟨⟨⟨q1, q2⟩, q3⟩, q4⟩ := k19
    have hne : (Root.l d) ∉ rs := by simpa using q4
    have hl2 : bs2.length = rs.length + 1 := by rw [outBs_length k17, q1]
    obtain ⟨X, hγ⟩ := exitC e3 e5 hl2 q2 e4 hne e7 M.rel.bound q3 rfl
    have hgl : gs.length = rs.length := by rw [hgs]; simp
    obtain ⟨x1, x2, x3, x4⟩ := exit_rel (gs := gs ++ [(.l d, S.γ (.r (.l d)) + 1)]) M.rel hH1 (by
        rw [List.nodup_append]
        exact ⟨e3, by simp, fun x hx y hy h => by simp at hy; subst hy; subst h; exact hne hx⟩) ⟨[.l d], rfl⟩ (fun r hr => by
          rcases List.mem_append.1 hr with h | h
          · exact hG r h
          · simp at h; subst h; rfl) (fun r h1 h2 => by
          rcases List.mem_append.1 h1 with h | h
          · exact absurd h h2
          · simp at h; subst h; exact ⟨hγ, fun i e => by cases e⟩) rfl m1 m2 X
      (fun i => by
        by_cases hi : i < rs.length
        · rw [List.getElem?_append_left (by omega), List.getElem?_append_left hi, hgs, List.getElem?_map]; cases rs[i]? <;> rfl
        · rw [List.getElem?_append_right (by omega), List.getElem?_append_right (by omega), hgl]
          cases i - rs.length <;> rfl)
      (fun i r g h => by
        by_cases hi : i < rs.length
        · rw [List.getElem?_append_left (by omega), hgs, List.getElem?_map] at h
          obtain ⟨r0, h1, h2⟩ := map_some' h
          simp only [Prod.mk.injEq] at h2
          obtain ⟨rfl, rfl⟩ := h2
          exact St.γ_wrs_le S _ _
        · rw [List.getElem?_append_right (by omega)] at h
          cases hx : i - gs.length with
          | zero =>
            simp [hx] at h
            obtain ⟨rfl, rfl⟩ := h
            exact Nat.lt_of_le_of_lt (hle (.r (.l d))) hγ
          | succ n => simp [hx] at h) k17
    exact Rel.aft x1 (M.mono.trans x2) hd (m := 0) (m3.back x3 k15 x4)
end
end Go.Abs
