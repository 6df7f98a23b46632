/- Calls: all together. -/
import Derived.Test.YtjndnconlakjkaaAbsCall5
import Derived.Test.YtjndnconlakjkaaAbsSound
set_option linter.unusedVariables false
set_option linter.unusedSimpArgs false
namespace Go.Abs

/-- The writes of a call that made a box. -/
theorem exitC {S0 : St} {ws : List Wr} {rs : List Root} {bs bs2 : List (List C)} {dst : Nat} (hnd : rs.Nodup) (hl : bs.length = rs.length) (hl2 : bs2.length = rs.length + 1) (he : lensEq (bs2.take rs.length) bs = true)
    (hlive : ∀ r ∈ rs, LiveR S0 ws r) (hne : (Root.l dst) ∉ rs)
    (hb : ∀ (k : Nat) r cs, rs[k]? = some r → bs[k]? = some cs → cs.length = boxN (S0.E (.r r)) ∧ (∀ (j : Nat) x, cs[j]? = some x → (S0.wrs ws).E (.b r j) = .one x))
    (hbound : ∀ r c, boxN ((S0.wrs ws).E (.r r)) ≤ c → (S0.wrs ws).E (.b r c) = .one .dead)
    (hn : boxN ((S0.wrs ws).E (.r (.l dst))) = 0 ∨ boxN ((S0.wrs ws).E (.r (.l dst))) = (bs2.getD rs.length []).length) {k0 : Wr} (hk0 : k0 = { k := .r (.l dst), v := sizeV (bs2.getD rs.length []).length }) :
    ExitS (S0.wrs ws) (S0.wrs (cellWrs (.l dst) 0 (bs2.getD rs.length []) (k0 :: boxWrs rs bs2 bs ws))) (rs ++ [.l dst]) bs2
      (fun i c => if i < rs.length then okF bs (bs2.take rs.length) i c else decide (c < (bs2.getD rs.length []).length)) ∧
    (S0.wrs ws).γ (.r (.l dst)) < (S0.wrs (cellWrs (.l dst) 0 (bs2.getD rs.length []) (k0 :: boxWrs rs bs2 bs ws))).γ (.r (.l dst)) := by
  have htl : (bs2.take rs.length).length = rs.length := by simp [hl2]
  have X := exitB (bs2 := bs2.take rs.length) hnd hl htl he hlive hb hbound
  have hbw : boxWrs rs bs2 bs ws = boxWrs rs (bs2.take rs.length) bs ws := by
    clear X htl he hb hlive hnd hne hn hk0 hbound
    induction rs generalizing bs bs2 ws with
    | nil => cases bs2 <;> cases bs <;> simp [boxWrs]
    | cons r rs ih =>
      cases bs2 with
      | nil => simp at hl2
      | cons b bs2 =>
        cases bs with
        | nil => simp at hl
        | cons o bs =>
          simp only [boxWrs, List.length_cons, List.take_succ_cons]
          exact ih (by simpa using hl) (by simpa using hl2)
  rw [hbw]
  generalize hW : boxWrs rs (bs2.take rs.length) bs ws = W at X ⊢
  generalize hnb : bs2.getD rs.length [] = nb at hn hk0 ⊢
  have hnb' : bs2[rs.length]? = some nb := by rw [← hnb]; exact getD_some (by omega)
  have K := fun k => cellWrs_E S0 (.l dst) nb 0 (k0 :: W) k
  simp only [Nat.zero_add] at K
  -- the new root's write
  have k0E : ∀ k, k ≠ .r (.l dst) → (S0.wrs (k0 :: W)).E k = (S0.wrs W).E k ∧ (S0.wrs (k0 :: W)).γ k = (S0.wrs W).γ k := by
    intro k hk
    subst hk0
    simp only [St.wrs, St.E_wr, St.γ_wr, Ne.symm hk, if_false]; trivial
  have k0S : (S0.wrs (k0 :: W)).E (.r (.l dst)) = sizeV nb.length ∧ (S0.wrs W).γ (.r (.l dst)) < (S0.wrs (k0 :: W)).γ (.r (.l dst)) := by
    subst hk0
    simp [St.wrs, St.E_wr, St.γ_wr]
  have Kx : ∀ k, (∀ c, k ≠ .b (.l dst) c) → k ≠ .r (.l dst) → (S0.wrs (cellWrs (.l dst) 0 nb (k0 :: W))).E k = (S0.wrs W).E k ∧ (S0.wrs (cellWrs (.l dst) 0 nb (k0 :: W))).γ k = (S0.wrs W).γ k := by
    intro k h1 h2
    obtain ⟨a1, a2⟩ := (K k).2.1 (fun c _ => h1 c)
    obtain ⟨b1, b2⟩ := k0E k h2
    exact ⟨a1.trans b1, a2.trans b2⟩
  have split : ∀ {i : Nat} {r}, (rs ++ [Root.l dst])[i]? = some r → (i < rs.length ∧ rs[i]? = some r ∧ r ≠ .l dst) ∨ (i = rs.length ∧ r = .l dst) := by
    intro i r h
    by_cases hi : i < rs.length
    · rw [List.getElem?_append_left hi] at h
      exact .inl ⟨hi, h, fun e => hne (e ▸ List.mem_of_getElem? h)⟩
    · rw [List.getElem?_append_right (by omega)] at h
      cases hd : i - rs.length with
      | zero => simp [hd] at h; exact .inr ⟨by omega, h.symm⟩
      | succ n => simp [hd] at h
  have tk : ∀ {i : Nat} {cs}, i < rs.length → bs2[i]? = some cs → (bs2.take rs.length)[i]? = some cs := by
    intro i cs hi h
    rw [List.getElem?_take, if_pos hi]; exact h
  have oldD : ∀ c, (S0.wrs W).E (.b (.l dst) c) = (S0.wrs ws).E (.b (.l dst) c) := fun c => X.other _ (by intro r c' e; cases e; exact hne) (by intro _ e; cases e)
  refine ⟨⟨by simp [hl2], ?_, ?_, ?_, ?_, ?_, ?_, ?_, ?_⟩, ?_⟩
  · intro i r cs hr hc c x hx
    rcases split hr with ⟨h1, h2, h3⟩ | ⟨rfl, rfl⟩
    · rw [(Kx (.b r c) (by intro c' e; cases e; exact h3 rfl) (by intro e; cases e)).1]
      exact X.cellE i r cs h2 (tk h1 hc) c x hx
    · rw [hnb'] at hc; cases hc
      exact (K (.b (.l dst) c)).1 c x rfl hx
  · intro i r cs hr hc c hle
    rcases split hr with ⟨h1, h2, h3⟩ | ⟨rfl, rfl⟩
    · rw [(Kx (.b r c) (by intro c' e; cases e; exact h3 rfl) (by intro e; cases e)).1]
      exact X.out i r cs h2 (tk h1 hc) c hle
    · rw [hnb'] at hc; cases hc
      rw [((K (.b (.l dst) c)).2.1 (fun c' hc' e => by cases e; omega)).1, (k0E _ (by intro e; cases e)).1, oldD]
      exact hbound _ _ (by omega)
  · intro i r cs hr hc
    rcases split hr with ⟨h1, h2, h3⟩ | ⟨rfl, rfl⟩
    · rw [(Kx (.r r) (by intro c' e; cases e) (by intro e; cases e; exact h3 rfl)).1]
      exact X.size i r cs h2 (tk h1 hc)
    · rw [hnb'] at hc; cases hc
      rw [((K (.r (.l dst))).2.1 (fun c' hc' e => by cases e)).1, k0S.1, boxN_sizeV]
  · intro k h1 h2
    have m : Root.l dst ∈ rs ++ [Root.l dst] := by simp
    rw [(Kx k (fun c e => h1 _ c e m) (fun e => h2 _ e m)).1]
    exact X.other k (fun r c e hr => h1 r c e (by simp [hr])) (fun r e hr => h2 r e (by simp [hr]))
  · intro k
    refine Nat.le_trans (X.cnt k) (Nat.le_trans ?_ (K k).2.2.2)
    by_cases hk : k = .r (.l dst)
    · subst hk; omega
    · rw [(k0E k hk).2]; exact Nat.le_refl _
  · intro i r c hr hok
    rcases split hr with ⟨h1, h2, h3⟩ | ⟨rfl, rfl⟩
    · rw [if_pos h1] at hok
      rw [(Kx (.b r c) (by intro c' e; cases e; exact h3 rfl) (by intro e; cases e)).2]
      exact X.wr i r c h2 hok
    · rw [if_neg (by omega)] at hok
      have := (K (.b (.l dst) c)).2.2.1 c (by simpa using hok) rfl
      rw [(k0E _ (by intro e; cases e)).2] at this
      have := X.cnt (.b (.l dst) c)
      omega
  · intro i r c hr hok x hE
    rcases split hr with ⟨h1, h2, h3⟩ | ⟨rfl, rfl⟩
    · rw [if_pos h1] at hok
      exact X.sameE i r c h2 hok x hE
    · rw [if_neg (by omega)] at hok
      have hc : nb.length ≤ c := by simpa using hok
      rw [hbound (.l dst) c (by omega)] at hE
      cases hE
  · intro i r cs hr hc c x hx hok y
    rcases split hr with ⟨h1, h2, h3⟩ | ⟨rfl, rfl⟩
    · rw [if_pos h1] at hok
      exact X.same i r cs h2 (tk h1 hc) c x hx hok y
    · rw [if_neg (by omega)] at hok
      rw [hnb'] at hc; cases hc
      have : c < nb.length := (List.getElem?_eq_some_iff.1 hx).1
      simp at hok
      omega
  · rw [((K (.r (.l dst))).2.1 (fun c' hc' e => by cases e)).2]
    have := X.cnt (.r (.l dst))
    omega

/-- What a function that is called comes to, be it the program's own or one of the library. -/
def FnTo (P : Program) (fid : FuncId) (args : Array Value) (w : World) (R : Value → World → Prop) : Prop :=
  match (callFunc fid args).run P w with
  | .ok (.value v) w' => R v w'
  | .ok .skip w' => R undef w'
  | .ok (.enter f as) w' => Calls P f as w' fun e w'' => ∃ v, e = .returned v ∧ R v w''
  | .ok (.row row as) w' => Rows P row as w' R
  | _ => False

theorem FnTo.mono {P : Program} {fid : FuncId} {args : Array Value} {w : World} {R R' : Value → World → Prop} (h : FnTo P fid args w R) (hr : ∀ v w', R v w' → R' v w') : FnTo P fid args w R' := by
  unfold FnTo at h ⊢
  split at h
  · exact hr _ _ h
  · exact hr _ _ h
  · exact Calls.mono h (fun e w'' => by rintro ⟨v, rfl, hR⟩; exact ⟨v, rfl, hr _ _ hR⟩)
  · exact Rows.mono h hr
  · exact h.elim

/-- What the functions are to come to. -/
def OSound (P : Program) (nm : FuncId → Option Nat) (Cl : Oracle) : Prop :=
  ∀ {f : Nat} {vs : List V} {bx : List (List C)} {r : V} {out : List (List C)} {fid : FuncId}, Cl f vs bx = some (r, out) → nm fid = some f →
    ∀ {args : Array Value} {w : World} {L : LabF}, Rel nm vs.length (argEnts 0 vs ++ boxesEnts 0 bx) ⟨args, []⟩ w L → NoH L → (∀ B i o, L B = some (.box (.e i) o) → i < bx.length) →
      FnTo P fid args w fun v w' => ∃ L', Mono w w' L L' ∧ Rel nm 0 (boxesEnts 0 out) ⟨#[], []⟩ w' L' ∧ RepV nm w' L' (fun _ => 0) (.h 0) r v

section
variable {nm : FuncId → Option Nat} {N : Nat} {S : St} {a : Act} {w w' : World} {L L' : LabF} {γ γ' : Key → Nat}

/-- Memory grew, and nothing that has a label turned. -/
theorem Rel.grown (h : Rel nm N S a w L) (hh : ∀ B l, L B = some l → w'.heap[B]? = w.heap[B]?) : Rel nm N S a w' L := by
  have hst : Step w w' L L S.γ S.γ := ⟨fun B hB => ⟨hB, hh B _ hB⟩, fun _ => Nat.le_refl _, fun B q o _ _ hB => ⟨hB, fun cur e fz hc => ⟨cur, (hh B _ hB).trans hc, rfl⟩⟩, fun B q o _ _ _ hB => hh B _ hB, fun _ _ _ _ hB => hB⟩
  refine ⟨h.size, h.defers, ?_, ?_, h.bone, h.bound, ?_, ?_, h.rowInj, h.boxInj⟩
  · intro i
    exact (h.slot i).step hst (fun B q o hq hB => by rw [← hq, Place.at_self]; exact ⟨hB, hh B _ hB⟩)
  · intro r c x hx hxd
    exact (h.cell r c x hx hxd).step hst (fun B q o _ hB => ⟨hB, hh B _ hB⟩) (fun B o hB => ⟨hB, fun cur e fz hc => ⟨cur, (hh B _ hB).trans hc, rfl, rfl⟩⟩)
  · intro r hg hr
    obtain ⟨B, o, cur, e, fz, h1, h2, h3, h4⟩ := h.room r hg hr
    exact ⟨B, o, cur, e, fz, h1, (hh B _ h1).trans h2, h3, h4⟩
  · intro B l hB
    obtain ⟨cur, e, fz, h1⟩ := h.dom B l hB
    exact ⟨cur, e, fz, (hh B _ hB).trans h1⟩

theorem RepC.flat {k k' : Key} {j j' : Nat} {c : C} {v : Value} (h : RepC nm w L γ k j c v) (hf : c.flat = true) : RepC nm w' L' γ' k' j' c v := by
  cases c with
  | d x =>
    cases h with
    | d h =>
      cases h with
      | plain h =>
        refine .d (.plain ?_)
        cases h <;> first | exact .int | exact .bool | exact .str | (simp [C.flat, D.flat] at hf)
      | ownE => simp [C.flat, D.flat] at hf
      | own => simp [C.flat, D.flat] at hf
  | _ => simp [C.flat] at hf
theorem flat_get : ∀ {l : List V} {i : Nat} {c : V}, V.flat.go l = true → l[i]? = some c → c.flat = true
  | [], _, _, _, h => by simp at h
  | x :: t, 0, c, h, hc => by simp only [V.flat.go, Bool.and_eq_true] at h; simp at hc; subst hc; exact h.1
  | x :: t, i + 1, c, h, hc => by simp only [V.flat.go, Bool.and_eq_true] at h; exact flat_get h.2 (by simpa using hc)
theorem RepV.flat {k k' : Key} {x : V} {v : Value} (h : RepV nm w L γ k x v) : x.flat = true → RepV nm w' L' γ' k' x v := by
  induction h with
  | one h => exact fun hf => .one (h.flat hf)
  | agg hl h => exact fun hf => .agg hl (fun j c u hj hu => (h j c u hj hu).flat (by simp only [V.flat, List.all_eq_true] at hf; exact hf c (List.mem_of_getElem? hj)))
  | tup hl hcl h ih => exact fun hf => .tup hl hcl (fun i x u hj hu => ih i x u hj hu (flat_get hf hj))
end
end Go.Abs
