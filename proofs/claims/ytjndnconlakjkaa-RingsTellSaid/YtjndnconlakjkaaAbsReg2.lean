/- Regions against the model's. -/
import Derived.Test.YtjndnconlakjkaaAbsReg
set_option linter.unusedVariables false
set_option linter.unusedSimpArgs false
namespace Go.Abs
section
variable {nm : FuncId → Option Nat} {N : Nat} {S : St} {a : Act} {w : World} {L : LabF} {P : Program} {o : Oper} {Cl : Oracle} {hh : Hint} {ops : Array Oper}

theorem Rel.same {S S' : St} (h : S.same S') (R : Rel nm N S a w L) : Rel nm N S' a w L := by
  have h1 : S'.E = S.E := funext fun k => by unfold St.E; rw [h k]
  have h2 : S'.γ = S.γ := funext fun k => by unfold St.γ; rw [h k]
  unfold Rel
  rw [h1, h2]; exact R

theorem Done.same {S S' : St} {w0 : World} {L0 : LabF} (h : S.same S') (D : Done nm N S w0 L0 a w L) : Done nm N S' w0 L0 a w L := ⟨D.rel.same h, D.mono, D.noH⟩

theorem yielded_of {j d : Nat} {g : Oper} (hg : ops[j]? = some g) (hd : g.dst = some d) (tmps : Array Value) : yielded ops tmps j = match tmps[d]? with | some (.bool b) => some b | _ => none := by
  unfold yielded
  rw [hg, Option.bind_some, hd, Option.bind_some]
  cases tmps[d]? with
  | none => rfl
  | some v => cases v <;> rfl

theorem oper_sound (hc : CallOk P nm Cl) (R : Rel nm N S a w L) (hH : NoH L) (hN : hh.nt = N) {io : IOper} {i : Nat} (hi : ops[i]? = some o) (hio : compOper P nm hh ops o = some io) {ws : List Wr} (hr : (evOper Cl io).run S = some ws)
    {K : Act → World → Prop} {Qx : Exit → Act → World → Prop} (hK : ∀ a' w' L', Done nm N (S.wrs ws) w L a' w' L' → K a' w') : wpOp P ops Qx i K a w := by
  unfold compOper at hio
  split at hio
  · rename_i hdst
    have hd : ∀ d, o.dst = some d → d < N := by
      intro d hd
      rw [hd] at hdst
      simpa [hN] using hdst
    have wanted : ∀ {v : V} {ws1 : List Wr}, Region.wanted o (yielded ops a.tmps) = true → (evOp Cl (o.dst.getD 0) ((compOp P nm hh o).getD .bad)).run S = some (v, ws1) → ws = wrsOf o.dst v ws1 → wpOp P ops Qx i K a w := by
      intro v ws1 hw hev hws
      unfold wpOp
      rw [hi]
      simp only [hw, if_true]
      left
      cases hcop : compOp P nm hh o with
      | none => rw [hcop] at hev; simp [evOp] at hev
      | some io' =>
        rw [hcop] at hev
        exact (op_sound hc R hH hd hcop hev).wp (fun v' w' ⟨L', D⟩ => hK _ _ _ (by rw [hws]; exact D))
    have skip : Region.wanted o (yielded ops a.tmps) = false → ws = (match o.dst with | some d => [{ k := .s d, v := .tup [] }] | none => []) → wpOp P ops Qx i K a w := by
      intro hw hws
      unfold wpOp
      rw [hi]
      simp only [hw, Bool.false_eq_true, if_false]
      obtain ⟨L', D⟩ := Rel.aft (ws := []) (dst := o.dst) (m := 0) (x := .tup []) (v := undef) R (Mono.refl w L) hd (.tup (us := #[]) rfl rfl (fun i x u h => by simp at h))
      refine hK _ _ _ (by rw [hws]; cases hod : o.dst <;> simpa [wrsOf, hod] using D)
    have fin : ∀ {gd : Option (Nat × Bool)} {want : Bool} {f : Unit}, io = ⟨o.dst, (compOp P nm hh o).getD .bad, gd⟩ → True := fun _ => trivial
    split at hio
    · rename_i hg
      cases hio
      unfold evOper at hr
      obtain ⟨want, h1, h2⟩ := Q.run_bind_some hr
      obtain rfl := Q.run_pure_some h1
      simp only [if_true] at h2
      obtain ⟨⟨v, ws1⟩, h3, h4⟩ := Q.run_bind_some h2
      refine wanted (by unfold Region.wanted; rw [hg]) h3 ?_
      cases hod : o.dst with
      | none => rw [hod] at h4; simpa [wrsOf] using Q.run_pure_some h4
      | some d => rw [hod] at h4; simpa [wrsOf] using Q.run_pure_some h4
    · rename_i j b hg
      split at hio
      · rename_i d hjd
        cases hio
        obtain ⟨g, hgj, hgd⟩ : ∃ g, ops[j]? = some g ∧ g.dst = some d := by
          cases hx : ops[j]? with
          | none => simp [hx] at hjd
          | some g => exact ⟨g, rfl, by simpa [hx] using hjd⟩
        have hy := yielded_of hgj hgd a.tmps
        have hsl := R.slot d
        unfold evOper at hr
        obtain ⟨want, h1, h2⟩ := Q.run_bind_some hr
        have h1' := Q.run_at_some h1
        have hwant : Region.wanted o (yielded ops a.tmps) = want := by
          unfold Region.wanted
          rw [hg]
          simp only
          rw [hy]
          split at h1'
          · rename_i x hx
            obtain rfl := Q.run_pure_some h1'
            have hE : S.E (.s d) = .one (.d (.bool x)) := hx
            rw [hE] at hsl
            have hv := hsl.one_inv.bool_inv
            rw [Array.getD_eq_getD_getElem?] at hv
            cases ht : a.tmps[d]? with
            | none => rw [ht] at hv; simp [undef] at hv
            | some u =>
              rw [ht] at hv
              simp only [Option.getD_some] at hv
              subst hv
              cases x <;> cases b <;> rfl
          · rename_i hx
            obtain rfl := Q.run_pure_some h1'
            have hE : S.E (.s d) = .tup [] := hx
            rw [hE] at hsl
            rw [Array.getD_eq_getD_getElem?] at hsl
            cases ht : a.tmps[d]? with
            | none => rfl
            | some u =>
              rw [ht] at hsl
              simp only [Option.getD_some] at hsl
              cases hsl
              rfl
          · cases h1'
        cases want with
        | true =>
          simp only [if_true] at h2
          obtain ⟨⟨v, ws1⟩, h3, h4⟩ := Q.run_bind_some h2
          refine wanted hwant h3 ?_
          cases hod : o.dst with
          | none => rw [hod] at h4; simpa [wrsOf] using Q.run_pure_some h4
          | some d => rw [hod] at h4; simpa [wrsOf] using Q.run_pure_some h4
        | false =>
          simp only [Bool.false_eq_true, if_false] at h2
          refine skip hwant ?_
          cases hod : o.dst with
          | none => rw [hod] at h2; simpa using Q.run_pure_some h2
          | some d => rw [hod] at h2; simpa using Q.run_pure_some h2
      · cases hio
  · cases hio

theorem compOps_inv {l : List IOper} (h : compOps P nm hh ops = some l) : l.length = ops.size ∧ ∀ (i : Nat) io, l[i]? = some io → ∃ o, ops[i]? = some o ∧ compOper P nm hh ops o = some io := by
  obtain ⟨h1, h2⟩ := mapM_inv _ h
  refine ⟨by simpa using h1, fun i io hi => ?_⟩
  obtain ⟨o, g1, g2⟩ := h2 i io hi
  exact ⟨o, by rw [← Array.getElem?_toList]; exact g1, g2⟩

theorem Done.trans {S S' : St} {a a' : Act} {w0 w w' : World} {L0 L L' : LabF} (h : Done nm N S w0 L0 a w L) (k : Done nm N S' w L a' w' L') : Done nm N S' w0 L0 a' w' L' := ⟨k.rel, h.mono.trans k.mono, k.noH⟩

/-- A region in the order of its text. -/
theorem ops_sound (hc : CallOk P nm Cl) (hN : hh.nt = N) {l : List IOper} (hl : compOps P nm hh ops = some l) {Q : Exit → Act → World → Prop} : ∀ (m k : Nat), k + m = ops.size → ∀ {S Sf : St} {a : Act} {w : World} {L : LabF}, Rel nm N S a w L → NoH L → evOps Cl (l.drop k) S = some Sf →
    (∀ a' w' L', Done nm N Sf w L a' w' L' → Q .normal a' w') → wpOps P ops Q (List.range' k m) a w
  | 0, k, hk, S, Sf, a, w, L, R, hH, he, hQ => by
    obtain ⟨h1, _⟩ := compOps_inv hl
    rw [List.drop_of_length_le (by omega)] at he
    simp only [evOps, Option.some.injEq] at he
    subst he
    exact hQ a w L ⟨R, Mono.refl w L, hH⟩
  | m + 1, k, hk, S, Sf, a, w, L, R, hH, he, hQ => by
    obtain ⟨h1, h2⟩ := compOps_inv hl
    have hkl : k < l.length := by omega
    rw [List.drop_eq_getElem_cons hkl] at he
    simp only [evOps] at he
    cases hw : (evOper Cl l[k]).run S with
    | none => simp [hw] at he
    | some ws =>
      simp only [hw, Option.bind_some] at he
      obtain ⟨o, g1, g2⟩ := h2 k l[k] (by simp)
      rw [List.range'_succ, wpOps_cons]
      exact oper_sound hc R hH hN g1 g2 hw (fun a' w' L' D => ops_sound hc hN hl m (k + 1) (by omega) D.rel D.noH he (fun a'' w'' L'' D' => hQ _ _ _ (D.trans D')))

theorem ready_iff {listed : Array Bool} {i : Nat} : i ∈ Region.ready .any ops listed ↔ i < ops.size ∧ listed.getD i true = false ∧ ∃ o, ops[i]? = some o ∧ ∀ e ∈ o.after, Region.binds .any e = true → listed.getD e.on false = true := by
  unfold Region.ready
  rw [List.mem_filter, List.mem_range]
  simp only [Bool.and_eq_true, Bool.not_eq_true']
  constructor
  · rintro ⟨h1, h2, h3⟩
    refine ⟨h1, h2, ops[i], by simp [h1], ?_⟩
    simp only [Array.getElem?_eq_getElem h1, Option.map_some, Option.getD_some] at h3
    intro e he hb
    have := Array.all_eq_true'.1 h3 e he
    simpa [hb] using this
  · rintro ⟨h1, h2, o, h3, h4⟩
    refine ⟨h1, h2, ?_⟩
    rw [h3]
    simp only [Option.map_some, Option.getD_some]
    rw [Array.all_eq_true']
    intro e he
    cases hb : Region.binds .any e with
    | false => rfl
    | true => simpa [hb] using h4 e he hb

/-- A region whose order is drawn: whatever may run does not touch what else may run. -/
theorem any_sound (hc : CallOk P nm Cl) (hN : hh.nt = N) {l : List IOper} (hl : compOps P nm hh ops = some l) (hok : edgesOk ops = true) {Q : Exit → Act → World → Prop} {φ : Nat → Foot}
    (hφ : ∀ i j, i < j → j < ops.size → ((Region.before ops).getD j 0).testBit i = false → (φ i).apart (φ j) = true) :
    ∀ (fuel : Nat) (rem : List Nat) (listed : Array Bool), rem.length = fuel → listed.size = ops.size → rem.Pairwise (· < ·) → (∀ i, i ∈ rem ↔ i < ops.size ∧ listed.getD i true = false) → Closed ops listed →
    ∀ {S Sf : St} {a : Act} {w : World} {L : LabF}, Rel nm N S a w L → NoH L → evOpsF Cl (rem.map fun i => l.getD i default) S = some (Sf, rem.map φ) → (∀ a' w' L', Done nm N Sf w L a' w' L' → Q .normal a' w') → wpAny P .any ops Q fuel listed a w
  | 0, rem, listed, hlen, hsz, hsort, hrem, hcl, S, Sf, a, w, L, R, hH, he, hQ => by
    have : rem = [] := List.length_eq_zero_iff.1 hlen
    subst this
    simp only [List.map_nil, evOpsF, Option.some.injEq, Prod.mk.injEq, and_true] at he
    subst he
    refine ⟨?_, hQ a w L ⟨R, Mono.refl w L, hH⟩⟩
    rw [List.eq_nil_iff_forall_not_mem]
    intro i hi
    obtain ⟨h1, h2, _⟩ := ready_iff.1 hi
    exact absurd ((hrem i).2 ⟨h1, h2⟩) (by simp)
  | fuel + 1, rem, listed, hlen, hsz, hsort, hrem, hcl, S, Sf, a, w, L, R, hH, he, hQ => by
    obtain ⟨g1, g2⟩ := compOps_inv hl
    refine ⟨?_, ?_⟩
    · -- something may run
      intro hnil
      exfalso
      cases rem with
      | nil => simp at hlen
      | cons r0 rest =>
        have hr0 := (hrem r0).1 (by simp)
        have : r0 ∈ Region.ready .any ops listed := by
          refine ready_iff.2 ⟨hr0.1, hr0.2, ops[r0], by simp [hr0.1], ?_⟩
          intro e he hb
          have h3 := List.all_eq_true.1 hok r0 (List.mem_range.2 hr0.1)
          simp only [Array.getElem?_eq_getElem hr0.1, Option.map_some, Option.getD_some] at h3
          have h4 := Array.all_eq_true'.1 h3 e he
          simp only [hb, Bool.not_true, Bool.false_or, decide_eq_true_eq] at h4
          cases hx : listed.getD e.on true with
          | false =>
            have : e.on ∈ r0 :: rest := (hrem e.on).2 ⟨by omega, hx⟩
            rcases List.mem_cons.1 this with h5 | h5
            · omega
            · have := (List.pairwise_cons.1 hsort).1 e.on h5
              omega
          | true =>
            have hlt : e.on < listed.size := by omega
            simp only [Array.getD_eq_getD_getElem?, Array.getElem?_eq_getElem hlt, Option.getD_some] at hx ⊢
            exact hx
        rw [hnil] at this
        simp at this
    · intro i hi
      obtain ⟨h1, h2, o, h3, h4⟩ := ready_iff.1 hi
      have himem : i ∈ rem := (hrem i).2 ⟨h1, h2⟩
      obtain ⟨l1, l2, hsplit⟩ := List.append_of_mem himem
      subst hsplit
      have hlt : ∀ r ∈ l1, r < i := fun r hr => (List.pairwise_append.1 hsort).2.2 r hr i (by simp)
      have hap : ∀ g ∈ l1.map φ, g.apart (φ i) = true := by
        intro g hg
        obtain ⟨r, hr, rfl⟩ := List.mem_map.1 hg
        refine hφ r i (hlt r hr) h1 ?_
        cases hb : ((Region.before ops).getD i 0).testBit r with
        | false => rfl
        | true =>
          have hrl := before_listed ops listed hsz hcl (i + 1) i (by omega) o h3 h4 r hb
          have hrm := ((hrem r).1 (by simp [hr]))
          have hrs : r < listed.size := by omega
          simp only [Array.getD_eq_getD_getElem?, Array.getElem?_eq_getElem hrs, Option.getD_some] at hrl hrm
          rw [hrl] at hrm
          exact absurd hrm.2 (by simp)
      simp only [List.map_append, List.map_cons] at he
      obtain ⟨ws, k1, _, Sf', k3, k4⟩ := bring_front Cl _ (φ i) _ _ (l1.map fun i => l.getD i default) (by simp) he hap
      have hli : i < l.length := by omega
      have hget : l.getD i default = l[i] := by simp [List.getD_eq_getElem?_getD, hli]
      rw [hget] at k1
      obtain ⟨o', m1, m2⟩ := g2 i l[i] (by simp)
      refine oper_sound hc R hH hN m1 m2 k1 (fun a' w' L' D => ?_)
      rw [← List.map_append, ← List.map_append] at k3
      have hset : ∀ k b, (listed.setIfInBounds i true).getD k b = if k = i then true else listed.getD k b := by
        intro k b
        simp only [Array.getD_eq_getD_getElem?]
        by_cases hki : k = i
        · subst hki
          rw [Array.getElem?_setIfInBounds]
          simp [show k < listed.size by omega]
        · rw [Array.getElem?_setIfInBounds_ne (fun e => hki e.symm), if_neg hki]
      have hsort' : (l1 ++ l2).Pairwise (· < ·) := by
        have := List.pairwise_append.1 hsort
        refine List.pairwise_append.2 ⟨this.1, (List.pairwise_cons.1 this.2.1).2, fun x hx y hy => this.2.2 x hx y (by simp [hy])⟩
      have hni : i ∉ l1 ++ l2 := by
        intro hm
        rcases List.mem_append.1 hm with hm | hm
        · exact Nat.lt_irrefl _ (hlt i hm)
        · exact Nat.lt_irrefl _ ((List.pairwise_cons.1 (List.pairwise_append.1 hsort).2.1).1 i hm)
      refine any_sound hc hN hl hok hφ fuel (l1 ++ l2) (listed.setIfInBounds i true) (by simp at hlen ⊢; omega) (by simpa using hsz) hsort' ?_ ?_ D.rel D.noH k3 (fun a'' w'' L'' D' => hQ _ _ _ ((D.trans D').same k4.symm))
      · intro k
        rw [hset]
        by_cases hki : k = i
        · subst hki
          simp only [if_true]
          exact ⟨fun h => absurd h hni, fun h => by simp at h⟩
        · rw [if_neg hki, ← hrem k]
          simp [List.mem_append, List.mem_cons, hki]
      · intro k ok hok' hk e he hb
        rw [hset] at hk ⊢
        by_cases hki : k = i
        · subst hki
          rw [h3] at hok'
          cases hok'
          have := h4 e he hb
          split
          · rfl
          · exact this
        · rw [if_neg hki] at hk
          have := hcl k ok hok' hk e he hb
          split
          · rfl
          · exact this
end
end Go.Abs
