/- Code against the model's. -/
import Derived.Test.YtjndnconlakjkaaAbsReg3
set_option linter.unusedVariables false
set_option linter.unusedSimpArgs false
namespace Go.Abs
section
variable {nm : FuncId → Option Nat} {N : Nat} {P : Program} {Cl : Oracle} {hh : Hint}

def exitOf : IExit → Exit
  | .norm => .normal
  | .exit id => .exit id
  | .ret => .ret

theorem least {p : Nat → Prop} (h : ∃ n, p n) : ∃ n, p n ∧ ∀ m, m < n → ¬ p m := by
  obtain ⟨n, hn⟩ := h
  induction n using Nat.strongRecOn with
  | _ n ih =>
    by_cases hx : ∃ m, m < n ∧ p m
    · obtain ⟨m, h1, h2⟩ := hx
      exact ih m h1 h2
    · exact ⟨n, hn, fun m hm hp => hx ⟨m, hm, hp⟩⟩

theorem code_sound (hmx : P.follows .mixedOrders = true) (hc : CallOk P nm Cl) (hN : hh.nt = N) (n : Nat) : ∀ (c : Code) {ic : ICode}, compC P nm hh c = some ic → ∀ {S S' : St} {e : IExit}, evC Cl n ic S = some (e, S') →
    ∀ {a : Act} {w : World} {L : LabF}, Rel nm N S a w L → NoH L → ∀ {Q : Exit → Act → World → Prop}, (∀ a' w' L', Done nm N S' w L a' w' L' → Q (exitOf e) a' w') → c.wp P Q a w := by
  have bad : ∀ {S S' : St} {e : IExit}, evC Cl n (.reg none false [⟨none, .bad, none⟩] none) S = some (e, S') → False := by
    intro S S' e h
    simp [evC, evReg, evOps, evOper, guardQ, evOp] at h
  intro c
  induction c with
  | skip =>
    intro ic hcc S S' e he a w L R hH Q hQ
    simp only [compC, Option.some.injEq] at hcc
    subst hcc
    simp only [evC, Option.some.injEq, Prod.mk.injEq] at he
    obtain ⟨rfl, rfl⟩ := he
    exact wp_skip (hQ a w L ⟨R, Mono.refl w L, hH⟩)
  | region id ops draw =>
    intro ic hcc S S' e he a w L R hH Q hQ
    simp only [compC] at hcc
    obtain ⟨l, h1, h2⟩ := bind_some hcc
    split at h2
    · cases h2
    · rename_i hcond
      cases h2
      simp only [evC] at he
      obtain ⟨Sf, h3, h4⟩ := map_some' he
      simp only [Prod.mk.injEq] at h4
      obtain ⟨rfl, rfl⟩ := h4
      refine reg_sound hmx hc hN h1 (fun hd => ?_) R hH h3 hQ
      cases hx : edgesOk ops with
      | true => rfl
      | false => exact absurd ⟨hd, hx⟩ hcond
  | seq x y ihx ihy =>
    intro ic hcc S S' e he a w L R hH Q hQ
    simp only [compC] at hcc
    obtain ⟨ix, h1, h2⟩ := bind_some hcc
    obtain ⟨iy, h3, h4⟩ := bind_some h2
    cases h4
    simp only [evC] at he
    obtain ⟨⟨e1, S1⟩, h5, h6⟩ := Option.bind_eq_some_iff.1 he
    refine wp_seq (ihx h1 h5 R hH (fun a' w' L' D => ?_))
    cases e1 with
    | norm =>
      simp only at h6
      exact ihy h3 h6 D.rel D.noH (fun a'' w'' L'' D' => hQ _ _ _ (D.trans D'))
    | exit id =>
      simp only [Option.some.injEq, Prod.mk.injEq] at h6
      obtain ⟨rfl, rfl⟩ := h6
      exact hQ _ _ _ D
    | ret =>
      simp only [Option.some.injEq, Prod.mk.injEq] at h6
      obtain ⟨rfl, rfl⟩ := h6
      exact hQ _ _ _ D
  | cond c x y ihx ihy =>
    intro ic hcc S S' e he a w L R hH Q hQ
    simp only [compC] at hcc
    obtain ⟨cx, h0, h1⟩ := bind_some hcc
    obtain ⟨ix, h2, h3⟩ := bind_some h1
    obtain ⟨iy, h4, h5⟩ := bind_some h3
    cases h5
    simp only [evC] at he
    obtain ⟨t, h6, h7⟩ := Option.bind_eq_some_iff.1 he
    have hb : a.eval c = .bool t := by
      unfold condV at h6
      obtain ⟨v, g1, g2⟩ := Option.bind_eq_some_iff.1 h6
      have rv := rd_val R (lookX_rel h0).1 g1
      split at g2
      · simp only [Option.some.injEq] at g2
        subst g2
        exact rv.one_inv.bool_inv
      · cases g2
    refine wp_cond hb ?_
    cases t with
    | true => exact ihx h2 (by simpa using h7) R hH hQ
    | false => exact ihy h4 (by simpa using h7) R hH hQ
  | block id b ih =>
    intro ic hcc S S' e he a w L R hH Q hQ
    simp only [compC] at hcc
    obtain ⟨ib, h1, rfl⟩ := map_some' hcc
    simp only [evC] at he
    obtain ⟨⟨e1, S1⟩, h2, h3⟩ := map_some' he
    simp only [Prod.mk.injEq] at h3
    obtain ⟨h3, rfl⟩ := h3
    refine wp_block (ih h1 h2 R hH (fun a' w' L' D => ?_))
    cases e1 with
    | norm => subst h3; exact hQ _ _ _ D
    | exit i =>
      show Exit.inBlock id Q (.exit i) a' w'
      simp only [Exit.inBlock]
      by_cases hi : i = id
      · subst hi
        simp only [if_true] at h3 ⊢
        subst h3
        exact hQ _ _ _ D
      · simp only [hi, if_false] at h3 ⊢
        subst h3
        exact hQ _ _ _ D
    | ret => subst h3; exact hQ _ _ _ D
  | loop b ih =>
    intro ic hcc S S' e he a w L R hH Q hQ
    simp only [compC] at hcc
    obtain ⟨ib, h1, rfl⟩ := map_some' hcc
    simp only [evC] at he
    let Good : Nat → Act → World → Prop := fun m a1 w1 => ∃ S1 L1, Done nm N S1 w L a1 w1 L1 ∧ iter (evC Cl n ib) m S1 = some (e, S')
    let μ : Act → World → Nat := fun a1 w1 => open Classical in if h : ∃ m, Good m a1 w1 then Classical.choose (least h) else 0
    have hμ : ∀ {a1 w1} (h : ∃ m, Good m a1 w1), Good (μ a1 w1) a1 w1 ∧ ∀ m, m < μ a1 w1 → ¬ Good m a1 w1 := by
      intro a1 w1 h
      have := Classical.choose_spec (least h)
      simp only [μ, dif_pos h]
      exact this
    refine wp_loop (fun a1 w1 => ∃ m, Good m a1 w1) μ ⟨n, S, L, ⟨R, Mono.refl w L, hH⟩, he⟩ ?_
    intro a1 w1 hI
    obtain ⟨⟨S1, L1, D1, hit⟩, hmin⟩ := hμ hI
    cases hm : μ a1 w1 with
    | zero => rw [hm] at hit; simp [iter] at hit
    | succ m =>
      rw [hm] at hit
      simp only [iter] at hit
      obtain ⟨⟨e1, S2⟩, h2, h3⟩ := Option.bind_eq_some_iff.1 hit
      refine ih h1 h2 D1.rel D1.noH (fun a' w' L' D => ?_)
      cases e1 with
      | norm =>
        simp only at h3
        have hg : Good m a' w' := ⟨S2, L', D1.trans D, h3⟩
        refine ⟨⟨m, hg⟩, ?_⟩
        rcases Nat.lt_or_ge m (μ a' w') with h | h
        · exact absurd hg ((hμ ⟨m, hg⟩).2 m h)
        · omega
      | exit id =>
        simp only [Option.some.injEq, Prod.mk.injEq] at h3
        obtain ⟨rfl, rfl⟩ := h3
        exact hQ _ _ _ (D1.trans D)
      | ret =>
        simp only [Option.some.injEq, Prod.mk.injEq] at h3
        obtain ⟨rfl, rfl⟩ := h3
        exact hQ _ _ _ (D1.trans D)
  | exit id =>
    intro ic hcc S S' e he a w L R hH Q hQ
    simp only [compC, Option.some.injEq] at hcc
    subst hcc
    simp only [evC, Option.some.injEq, Prod.mk.injEq] at he
    obtain ⟨rfl, rfl⟩ := he
    exact wp_exit (hQ a w L ⟨R, Mono.refl w L, hH⟩)
  | ret =>
    intro ic hcc S S' e he a w L R hH Q hQ
    simp only [compC, Option.some.injEq] at hcc
    subst hcc
    simp only [evC, Option.some.injEq, Prod.mk.injEq] at he
    obtain ⟨rfl, rfl⟩ := he
    exact wp_ret (hQ a w L ⟨R, Mono.refl w L, hH⟩)
  | _ =>
    intros
    rename_i hcc S S' e he a w L R hH Q hQ
    simp only [compC, Option.some.injEq] at hcc
    subst hcc
    exact (bad he).elim
end
end Go.Abs
