/- Calls: the writes behind a call. -/
import Derived.Test.YtjndnconlakjkaaAbsCall4
set_option linter.unusedVariables false
set_option linter.unusedSimpArgs false
namespace Go.Abs

theorem same_eq {y x : C} (h : y.same x = true) : x = y ∧ ∃ r g c, x = .ptr r g c := by
  cases y <;> cases x <;> simp only [C.same, Bool.and_eq_true, decide_eq_true_eq, beq_iff_eq, Bool.false_eq_true] at h
  obtain ⟨⟨rfl, rfl⟩, rfl⟩ := h
  exact ⟨rfl, _, _, _, rfl⟩

theorem newWrs_E (S : St) (r : Root) : ∀ (cs ol : List C) (c0 : Nat) (ws : List Wr) (k : Key), cs.length = ol.length →
    ((∀ c, c < cs.length → k ≠ .b r (c0 + c)) → (S.wrs (newWrs r c0 cs ol ws)).E k = (S.wrs ws).E k ∧ (S.wrs (newWrs r c0 cs ol ws)).γ k = (S.wrs ws).γ k) ∧
    (∀ c x y, k = .b r (c0 + c) → cs[c]? = some x → ol[c]? = some y → y.same x = true → (S.wrs (newWrs r c0 cs ol ws)).E k = (S.wrs ws).E k ∧ (S.wrs (newWrs r c0 cs ol ws)).γ k = (S.wrs ws).γ k) ∧
    (∀ c x y, k = .b r (c0 + c) → cs[c]? = some x → ol[c]? = some y → y.same x = false → (S.wrs (newWrs r c0 cs ol ws)).E k = .one x ∧ (S.wrs ws).γ k < (S.wrs (newWrs r c0 cs ol ws)).γ k) ∧
    (S.wrs ws).γ k ≤ (S.wrs (newWrs r c0 cs ol ws)).γ k
  | [], ol, c0, ws, k, hl => by
    have : newWrs r c0 [] ol ws = ws := by cases ol <;> rfl
    rw [this]
    exact ⟨fun _ => ⟨rfl, rfl⟩, fun c x y _ h => by simp at h, fun c x y _ h => by simp at h, Nat.le_refl _⟩
  | x0 :: cs, [], c0, ws, k, hl => by simp at hl
  | x0 :: cs, y0 :: ol, c0, ws, k, hl => by
    have hl' : cs.length = ol.length := by simpa using hl
    obtain ⟨h1, h2, h3, h4⟩ := newWrs_E S r cs ol (c0 + 1) (if y0.same x0 then ws else { k := .b r c0, v := .one x0 } :: ws) k hl'
    simp only [newWrs]
    have hle : (S.wrs ws).γ k ≤ (S.wrs (if y0.same x0 then ws else { k := .b r c0, v := .one x0 } :: ws)).γ k := by
      split
      · exact Nat.le_refl _
      · exact St.γ_wr_le _ _ k
    have hsk : k ≠ .b r c0 → (S.wrs (if y0.same x0 then ws else { k := .b r c0, v := .one x0 } :: ws)).E k = (S.wrs ws).E k ∧ (S.wrs (if y0.same x0 then ws else { k := .b r c0, v := .one x0 } :: ws)).γ k = (S.wrs ws).γ k := by
      intro hne
      split
      · exact ⟨rfl, rfl⟩
      · simp only [St.wrs, St.E_wr, St.γ_wr, Ne.symm hne, if_false]; trivial
    have hrest : k = .b r c0 → ∀ c, c < cs.length → k ≠ .b r (c0 + 1 + c) := by
      intro hk c _ e
      rw [hk] at e
      simp only [Key.b.injEq, true_and] at e; omega
    have hsucc : ∀ c, c0 + (c + 1) = c0 + 1 + c := fun c => by omega
    refine ⟨?_, ?_, ?_, Nat.le_trans hle h4⟩
    · intro hne
      obtain ⟨g1, g2⟩ := h1 (fun c hc e => hne (c + 1) (by simpa using hc) (by rw [e, hsucc c]))
      obtain ⟨g3, g4⟩ := hsk (fun e => hne 0 (by simp) (by rw [e]; rfl))
      exact ⟨g1.trans g3, g2.trans g4⟩
    · intro c x y hk hx hy hs
      cases c with
      | zero =>
        simp at hx hy
        subst hx; subst hy
        obtain ⟨g1, g2⟩ := h1 (hrest hk)
        rw [hs] at g1 g2
        simp only [if_true] at g1 g2
        rw [hs]
        exact ⟨g1, g2⟩
      | succ c =>
        obtain ⟨g1, g2⟩ := h2 c x y (by rw [hk, hsucc c]) (by simpa using hx) (by simpa using hy) hs
        obtain ⟨g3, g4⟩ := hsk (by rw [hk]; intro e; simp only [Key.b.injEq, true_and] at e; omega)
        exact ⟨g1.trans g3, g2.trans g4⟩
    · intro c x y hk hx hy hs
      cases c with
      | zero =>
        simp at hx hy
        subst hx; subst hy
        obtain ⟨g1, g2⟩ := h1 (hrest hk)
        rw [hs] at g1 g2 ⊢
        simp only [Nat.add_zero] at hk
        subst hk
        simp only [Bool.false_eq_true, if_false, St.wrs, St.E_wr, St.γ_wr, if_true] at g1 g2 ⊢
        exact ⟨g1, by omega⟩
      | succ c =>
        obtain ⟨g1, g2⟩ := h3 c x y (by rw [hk, hsucc c]) (by simpa using hx) (by simpa using hy) hs
        exact ⟨g1, by omega⟩

theorem boxWrs_E (S : St) : ∀ (rs : List Root) (bs os : List (List C)) (ws : List Wr) (k : Key), rs.Nodup → bs.length = rs.length → os.length = rs.length →
    (∀ (i : Nat) cs ol, bs[i]? = some cs → os[i]? = some ol → cs.length = ol.length) →
    ((∀ (i : Nat) r cs c, rs[i]? = some r → bs[i]? = some cs → c < cs.length → k ≠ .b r c) → (S.wrs (boxWrs rs bs os ws)).E k = (S.wrs ws).E k ∧ (S.wrs (boxWrs rs bs os ws)).γ k = (S.wrs ws).γ k) ∧
    (∀ (i : Nat) r cs ol c x y, rs[i]? = some r → bs[i]? = some cs → os[i]? = some ol → k = .b r c → cs[c]? = some x → ol[c]? = some y → y.same x = true → (S.wrs (boxWrs rs bs os ws)).E k = (S.wrs ws).E k ∧ (S.wrs (boxWrs rs bs os ws)).γ k = (S.wrs ws).γ k) ∧
    (∀ (i : Nat) r cs ol c x y, rs[i]? = some r → bs[i]? = some cs → os[i]? = some ol → k = .b r c → cs[c]? = some x → ol[c]? = some y → y.same x = false → (S.wrs (boxWrs rs bs os ws)).E k = .one x ∧ (S.wrs ws).γ k < (S.wrs (boxWrs rs bs os ws)).γ k) ∧
    (S.wrs ws).γ k ≤ (S.wrs (boxWrs rs bs os ws)).γ k
  | [], bs, os, ws, k, _, _, _, _ => by
    have : boxWrs [] bs os ws = ws := by cases bs <;> cases os <;> rfl
    rw [this]
    exact ⟨fun _ => ⟨rfl, rfl⟩, fun i r cs ol c x y h => by simp at h, fun i r cs ol c x y h => by simp at h, Nat.le_refl _⟩
  | r0 :: rs, [], os, ws, k, _, h, _, _ => by simp at h
  | r0 :: rs, cs0 :: bs, [], ws, k, _, _, h, _ => by simp at h
  | r0 :: rs, cs0 :: bs, ol0 :: os, ws, k, hnd, hb, ho, hl => by
    obtain ⟨hnr, hnd'⟩ := List.nodup_cons.1 hnd
    obtain ⟨h1, h2, h3, h4⟩ := boxWrs_E S rs bs os (newWrs r0 0 cs0 ol0 ws) k hnd' (by simpa using hb) (by simpa using ho) (fun i cs ol h1 h2 => hl (i + 1) cs ol (by simpa using h1) (by simpa using h2))
    obtain ⟨g1, g2, g3, g4⟩ := newWrs_E S r0 cs0 ol0 0 ws k (hl 0 cs0 ol0 rfl rfl)
    simp only [Nat.zero_add] at g1 g2 g3
    simp only [boxWrs]
    have hfst : ∀ c, k = .b r0 c → (S.wrs (boxWrs rs bs os (newWrs r0 0 cs0 ol0 ws))).E k = (S.wrs (newWrs r0 0 cs0 ol0 ws)).E k ∧ (S.wrs (boxWrs rs bs os (newWrs r0 0 cs0 ol0 ws))).γ k = (S.wrs (newWrs r0 0 cs0 ol0 ws)).γ k := by
      intro c hk
      refine h1 (fun i r cs c' hr _ _ e => ?_)
      rw [hk] at e
      simp only [Key.b.injEq] at e
      exact hnr (e.1 ▸ List.mem_of_getElem? hr)
    have hlater : ∀ (i : Nat) r c, rs[i]? = some r → k = .b r c → (S.wrs (newWrs r0 0 cs0 ol0 ws)).E k = (S.wrs ws).E k ∧ (S.wrs (newWrs r0 0 cs0 ol0 ws)).γ k = (S.wrs ws).γ k := by
      intro i r c hr hk
      refine g1 (fun c' _ e => ?_)
      rw [hk] at e
      simp only [Key.b.injEq] at e
      exact hnr (e.1 ▸ List.mem_of_getElem? hr)
    refine ⟨?_, ?_, ?_, Nat.le_trans g4 h4⟩
    · intro hne
      obtain ⟨a1, a2⟩ := h1 (fun i r cs c hr hc hlt => hne (i + 1) r cs c (by simpa using hr) (by simpa using hc) hlt)
      obtain ⟨a3, a4⟩ := g1 (fun c hc => hne 0 r0 cs0 c rfl rfl hc)
      exact ⟨a1.trans a3, a2.trans a4⟩
    · intro i r cs ol c x y hr hc ho' hk hx hy hs
      cases i with
      | zero =>
        simp at hr hc ho'
        subst hr; subst hc; subst ho'
        obtain ⟨a1, a2⟩ := hfst c hk
        obtain ⟨a3, a4⟩ := g2 c x y hk hx hy hs
        exact ⟨a1.trans a3, a2.trans a4⟩
      | succ i =>
        simp only [List.getElem?_cons_succ] at hr hc ho'
        obtain ⟨a1, a2⟩ := h2 i r cs ol c x y hr hc ho' hk hx hy hs
        obtain ⟨a3, a4⟩ := hlater i r c hr hk
        exact ⟨a1.trans a3, a2.trans a4⟩
    · intro i r cs ol c x y hr hc ho' hk hx hy hs
      cases i with
      | zero =>
        simp at hr hc ho'
        subst hr; subst hc; subst ho'
        obtain ⟨a1, a2⟩ := hfst c hk
        obtain ⟨a3, a4⟩ := g3 c x y hk hx hy hs
        exact ⟨a1.trans a3, by omega⟩
      | succ i =>
        simp only [List.getElem?_cons_succ] at hr hc ho'
        obtain ⟨a1, a2⟩ := h3 i r cs ol c x y hr hc ho' hk hx hy hs
        exact ⟨a1, by omega⟩

theorem lensEq_inv : ∀ {l m : List (List C)}, lensEq l m = true → l.length = m.length ∧ ∀ (i : Nat) x y, l[i]? = some x → m[i]? = some y → x.length = y.length
  | [], [], _ => ⟨rfl, fun i x y h => by simp at h⟩
  | [], _ :: _, h => by simp [lensEq] at h
  | _ :: _, [], h => by simp [lensEq] at h
  | a :: l, b :: m, h => by
    simp only [lensEq, Bool.and_eq_true, beq_iff_eq] at h
    obtain ⟨h1, h2⟩ := lensEq_inv h.2
    refine ⟨by simp [h1], fun i x y hx hy => ?_⟩
    cases i with
    | zero => simp at hx hy; subst hx; subst hy; exact h.1
    | succ i => exact h2 i x y (by simpa using hx) (by simpa using hy)

theorem gensOf_inv {S : St} : ∀ {rs : List Root} {gs : List (Root × Nat)}, (gensOf rs).run S = some gs → gs = rs.map fun r => (r, S.γ (.r r))
  | [], gs, h => by simp only [gensOf] at h; rw [Q.run_pure_some h]; rfl
  | r :: rs, gs, h => by
    simp only [gensOf] at h
    have h1 := Q.run_at_some h
    clear h
    obtain ⟨l, h2, h3⟩ := Q.run_bind_some h1
    have h4 := Q.run_pure_some h3
    rw [h4, gensOf_inv h2]
    rfl

/-- Which cells of the boxes may have turned. -/
def okF (bs bs2 : List (List C)) (i c : Nat) : Bool :=
  match (bs[i]?).bind (·[c]?), (bs2[i]?).bind (·[c]?) with
  | some y, some x => !(y.same x)
  | _, _ => false

theorem exitB {S0 : St} {ws : List Wr} {rs : List Root} {bs bs2 : List (List C)} (hnd : rs.Nodup) (hl : bs.length = rs.length) (hl2 : bs2.length = rs.length) (he : lensEq bs2 bs = true)
    (hlive : ∀ r ∈ rs, LiveR S0 ws r)
    (hb : ∀ (k : Nat) r cs, rs[k]? = some r → bs[k]? = some cs → cs.length = boxN (S0.E (.r r)) ∧ (∀ (j : Nat) x, cs[j]? = some x → (S0.wrs ws).E (.b r j) = .one x))
    (hbound : ∀ r c, boxN ((S0.wrs ws).E (.r r)) ≤ c → (S0.wrs ws).E (.b r c) = .one .dead) :
    ExitS (S0.wrs ws) (S0.wrs (boxWrs rs bs2 bs ws)) rs bs2 (okF bs bs2) := by
  obtain ⟨_, hlen⟩ := lensEq_inv he
  have W := fun k => boxWrs_E S0 rs bs2 bs ws k hnd hl2 hl (fun i cs ol h1 h2 => hlen i cs ol h1 h2)
  have hidx : ∀ {i i' : Nat} {r}, rs[i]? = some r → rs[i']? = some r → i = i' := fun {i i' r} h1 h2 => by
    have e1 := rootIdx_of rs (i := 0) hnd h1
    have e2 := rootIdx_of rs (i := 0) hnd h2
    rw [e1] at e2
    simpa using e2
  have hold : ∀ {i : Nat} {r}, rs[i]? = some r → ∃ ol, bs[i]? = some ol := fun {i r} h => ⟨bs[i]'(by rw [hl]; exact (List.getElem?_eq_some_iff.1 h).1), List.getElem?_eq_getElem _⟩
  have hnewb : ∀ {i : Nat} {r}, rs[i]? = some r → ∃ ol, bs2[i]? = some ol := fun {i r} h => ⟨bs2[i]'(by rw [hl2]; exact (List.getElem?_eq_some_iff.1 h).1), List.getElem?_eq_getElem _⟩
  have hS1r : ∀ {i : Nat} {r ol}, rs[i]? = some r → bs[i]? = some ol → boxN ((S0.wrs ws).E (.r r)) = ol.length := by
    intro i r ol h1 h2
    rw [getWr_E, (hlive r (List.mem_of_getElem? h1)).1, (hb i r ol h1 h2).1]; rfl
  refine ⟨hl2, ?_, ?_, ?_, ?_, fun k => (W k).2.2.2, ?_, ?_, ?_⟩
  · intro i r cs hr hc c x hx
    obtain ⟨ol, ho⟩ := hold hr
    have hll := hlen i cs ol hc ho
    have hcl : c < ol.length := by rw [← hll]; exact (List.getElem?_eq_some_iff.1 hx).1
    have hy : ol[c]? = some ol[c] := List.getElem?_eq_getElem hcl
    cases hs : (ol[c]).same x with
    | true =>
      rw [((W (.b r c)).2.1 i r cs ol c x _ hr hc ho rfl hx hy hs).1, (hb i r ol hr ho).2 c _ hy]
      rw [(same_eq hs).1]
    | false => exact ((W (.b r c)).2.2.1 i r cs ol c x _ hr hc ho rfl hx hy hs).1
  · intro i r cs hr hc c hle
    obtain ⟨ol, ho⟩ := hold hr
    have hll := hlen i cs ol hc ho
    rw [((W (.b r c)).1 (fun i' r' cs' c' hr' hc' hlt e => by
      cases e
      obtain rfl := hidx hr hr'
      rw [hc] at hc'
      cases hc'
      omega)).1]
    exact hbound r c (by rw [hS1r hr ho]; omega)
  · intro i r cs hr hc
    obtain ⟨ol, ho⟩ := hold hr
    have hll := hlen i cs ol hc ho
    rw [((W (.r r)).1 (fun _ _ _ _ _ _ _ e => by cases e)).1, hS1r hr ho, hll]
  · intro k h1 h2
    exact ((W k).1 (fun i r cs c hr _ _ e => h1 r c e (List.mem_of_getElem? hr))).1
  · intro i r c hr hok
    obtain ⟨ol, ho⟩ := hold hr
    obtain ⟨cs, hc⟩ := hnewb hr
    simp only [okF, ho, hc, Option.bind_some] at hok
    cases hy : ol[c]? with
    | none => simp [hy] at hok
    | some y =>
      cases hx : cs[c]? with
      | none => simp [hy, hx] at hok
      | some x =>
        simp only [hy, hx, Bool.not_eq_true'] at hok
        exact ((W (.b r c)).2.2.1 i r cs ol c x y hr hc ho rfl hx hy hok).2
  · intro i r c hr hok x hE
    obtain ⟨ol, ho⟩ := hold hr
    obtain ⟨cs, hc⟩ := hnewb hr
    simp only [okF, ho, hc, Option.bind_some] at hok
    have hll := hlen i cs ol hc ho
    cases hy : ol[c]? with
    | none =>
      have := hbound r c (by rw [hS1r hr ho]; exact List.getElem?_eq_none_iff.1 hy)
      rw [this] at hE; cases hE
    | some y =>
      have hcl : c < cs.length := by rw [hll]; exact (List.getElem?_eq_some_iff.1 hy).1
      have hx : cs[c]? = some cs[c] := List.getElem?_eq_getElem hcl
      simp only [hy, hx, Bool.not_eq_false'] at hok
      obtain ⟨h1, r', g', c', h2⟩ := same_eq hok
      rw [(hb i r ol hr ho).2 c y hy, ← h1, h2] at hE
      cases hE
  · intro i r cs hr hc c x hx hok y
    obtain ⟨ol, ho⟩ := hold hr
    simp only [okF, ho, hc, Option.bind_some, hx] at hok
    have hll := hlen i cs ol hc ho
    have hcl : c < ol.length := by rw [← hll]; exact (List.getElem?_eq_some_iff.1 hx).1
    have hy : ol[c]? = some ol[c] := List.getElem?_eq_getElem hcl
    simp only [hy, Bool.not_eq_false'] at hok
    obtain ⟨h1, r', g', c', h2⟩ := same_eq hok
    rw [h2]; intro h; cases h
end Go.Abs
