/- Every operation that is compiled does what the evaluator says. -/
import Derived.Test.YtjndnconlakjkaaAbsOps10
set_option linter.unusedVariables false
set_option linter.unusedSimpArgs false
namespace Go.Abs
section
variable {nm : FuncId → Option Nat} {N : Nat} {S : St} {a : Act} {w : World} {L : LabF} {P : Program} {o : Oper} {Cl : Oracle} {d : Nat} {r : V × List Wr} {hh : Hint}

/-- What calls are to come to. -/
def CallOk (P : Program) (nm : FuncId → Option Nat) (Cl : Oracle) : Prop :=
  ∀ {N : Nat} {S : St} {a : Act} {w : World} {L : LabF} {o : Oper} {d : Nat} {r : V × List Wr} {c : Call} {f : Operand} {F : X} {xs : List (Bool × X)}, Rel nm N S a w L → NoH L → (∀ d, o.dst = some d → d < N) → o.op = .call c → c.callee = .value f → OpRel nm F f → F.okC = true →
    xs.length = c.args.toList.length → (∀ (j : Nat) x y, xs[j]? = some x → c.args.toList[j]? = some y → OpRel nm x.2 y ∧ x.2.okC = true) → (evOp Cl d (.call F xs)).run S = some r → OpsTo P a w o (Aft nm N S w L a o.dst r.1 r.2)

theorem bind_some {α β : Type} {x : Option α} {f : α → Option β} {r : β} (h : (x >>= f) = some r) : ∃ y, x = some y ∧ f y = some r := by
  cases x with
  | none => cases h
  | some y => exact ⟨y, rfl, h⟩
theorem map_some' {α β : Type} {x : Option α} {f : α → β} {r : β} (h : x.map f = some r) : ∃ y, x = some y ∧ r = f y := by
  cases x with
  | none => cases h
  | some y => exact ⟨y, rfl, by simpa using h.symm⟩

theorem elemsOk_of {e : TypeId} : ∀ (ps : List (Nat × Operand)) {xs : List (Nat × X)}, ps.mapM (compElem P nm hh e) = some xs → ElemsOk nm xs ps
  | [], xs, h => by
    have : xs = [] := by simpa using h.symm
    subst this
    trivial
  | p :: ps, xs, h => by
    rw [List.mapM_cons] at h
    obtain ⟨y, h1, h2⟩ := bind_some h
    obtain ⟨ys, h3, h4⟩ := bind_some h2
    have : xs = y :: ys := by simpa using h4.symm
    subst this
    unfold compElem at h1
    obtain ⟨x, h5, rfl⟩ := map_some' h1
    obtain ⟨g1, g2⟩ := compX_rel h5
    exact ⟨rfl, g1, g2, elemsOk_of ps h3⟩

theorem partsOk_of {fs : Array Field} : ∀ (ps : List (Nat × Operand)) {xs : List (Nat × Nat × X)}, ps.mapM (compPart P nm hh fs) = some xs → PartsOk nm (fun i => (fs.map fun f => (f.offset, (szOf P f.type).getD 0))[i]?) xs ps
  | [], xs, h => by
    have : xs = [] := by simpa using h.symm
    subst this
    trivial
  | p :: ps, xs, h => by
    rw [List.mapM_cons] at h
    obtain ⟨y, h1, h2⟩ := bind_some h
    obtain ⟨ys, h3, h4⟩ := bind_some h2
    have : xs = y :: ys := by simpa using h4.symm
    subst this
    unfold compPart at h1
    split at h1
    · rename_i f hf
      split at h1
      · rename_i n x hn hx
        split at h1
        · cases h1
        · rename_i hn0
          cases h1
          obtain ⟨g1, g2⟩ := compX_rel hx
          refine ⟨?_, hn0, g1, g2, partsOk_of ps h3⟩
          simp [Array.getElem?_map, hf, hn]
      · cases h1
    · cases h1

theorem lookOpt {t : TypeId} {lo : Option Operand} {LO : Option X} (h : (match lo with | none => some none | some v => (lookX P nm t v).map some) = some LO) :
    (∀ x, lo = some x → ∃ y, LO = some y ∧ OpRel nm y x) ∧ (lo = none → LO = none) := by
  cases lo with
  | none =>
    have : LO = none := by simpa using h.symm
    exact ⟨(fun x hx => by cases hx), fun _ => this⟩
  | some v =>
    obtain ⟨y, h1, rfl⟩ := map_some' h
    exact ⟨fun x hx => by cases hx; exact ⟨y, rfl, (lookX_rel h1).1⟩, fun hx => by cases hx⟩

theorem isU8_inv {t : TypeId} (h : isU8 (P.underlying t) = true) : P.underlying t = some (.int .u8) := by
  unfold isU8 at h
  split at h
  · assumption
  · cases h

theorem appT_of {t u e : TypeId} {i : TypeInfo} {dd : TypeDesc} {zs : List C} (ht : P.underlying t = some (.slice e)) (hu : P.underlying u = some dd) (hd : ∀ k, dd ≠ .int k) (hi : P.info? e = some i) (hz : zeroC P e = some zs) (hs : i.size ≠ 0) (hb : i.bytes ≠ 0) :
    ∃ z, AppT P i.size i.bytes t u e i dd z := by
  obtain ⟨i', z, k1, k2, k3, k4, k5⟩ := zeroC_inv hz
  obtain rfl : i' = i := by rw [hi] at k1; simpa using k1.symm
  exact ⟨z, ht, hu, hd, hi, k2, rfl, k4, Nat.pos_of_ne_zero hs, rfl, hb⟩

theorem zip_mapM {l1 : List Operand} {l2 : List TypeId} {xs : List X} (h : (l1.zip l2).mapM (fun x => compX P nm hh x.2 x.1) = some xs) (hl : l1.length = l2.length) : xs.length = l1.length ∧ ∀ (j : Nat) x y, xs[j]? = some x → l1[j]? = some y → OpRel nm x y ∧ x.okC = true := by
  obtain ⟨h1, h2⟩ := mapM_inv _ h
  refine ⟨by rw [h1, List.length_zip]; omega, fun j x y hx hy => ?_⟩
  obtain ⟨p, g1, g2⟩ := h2 j x hx
  rw [List.getElem?_zip_eq_some] at g1
  have : p.1 = y := by rw [g1.1] at hy; simpa using hy
  rw [this] at g2
  exact compX_rel g2

theorem op_sound (hc : CallOk P nm Cl) (R : Rel nm N S a w L) (hH : NoH L) (hd : ∀ d, o.dst = some d → d < N) {io : IOp} (hio : compOp P nm hh o = some io) (hr : (evOp Cl d io).run S = some r) :
    OpsTo P a w o (Aft nm N S w L a o.dst r.1 r.2) := by
  have bad : ∀ {io : IOp}, (none : Option IOp) = some io → False := fun h => by cases h
  unfold compOp at hio
  split at hio
  · rename_i x ho
    obtain ⟨X, h1, rfl⟩ := map_some' hio
    obtain ⟨g1, g2⟩ := compX_rel h1
    exact ev_mov R hH hd g1 g2 (.inl ho) hr
  · rename_i x ho
    obtain ⟨X, h1, rfl⟩ := map_some' hio
    obtain ⟨g1, g2⟩ := compX_rel h1
    exact ev_mov R hH hd g1 g2 (.inr ho) hr
  · rename_i c x y ho
    obtain ⟨C', h1, h2⟩ := bind_some hio
    obtain ⟨X, h3, h4⟩ := bind_some h2
    obtain ⟨Y, h5, h6⟩ := bind_some h4
    cases h6
    exact ev_pick R hd (lookX_rel h1).1 (lookX_rel h3).1 (lookX_rel h5).1 ho hr
  · rename_i e ho
    obtain ⟨zs, h1, rfl⟩ := map_some' hio
    exact ev_alloc R hd ho h1 hr
  · rename_i e v ho
    obtain ⟨n, h1, h2⟩ := bind_some hio
    obtain ⟨X, h3, h4⟩ := bind_some h2
    split at h4
    · cases h4
    · rename_i hn
      cases h4
      obtain ⟨g1, g2⟩ := compX_rel h3
      exact ev_box R hH hd g1 g2 ho hn hr
  · rename_i t parts ho
    obtain ⟨zs, h1, h2⟩ := bind_some hio
    split at h2
    · rename_i fs ht
      split at h2
      · rename_i hall
        obtain ⟨ps, h3, rfl⟩ := map_some' h2
        exact ev_build R hH hd ho h1 ht (fun f hf => by simpa using List.all_eq_true.1 hall f hf) (partsOk_of _ h3) hr
      · cases h2
    · cases h2
  · rename_i t len parts ho
    split at hio
    · rename_i e ht
      obtain ⟨zs, h1, h2⟩ := bind_some hio
      obtain ⟨row, h3, h4⟩ := bind_some h2
      split at h4
      · cases h4
      · rename_i hcond
        obtain ⟨ps, h5, rfl⟩ := map_some' h4
        exact ev_bslice R hH hd ho ht h1 h3 (fun h => hcond (.inl h)) (fun h => hcond (.inr h)) (elemsOk_of _ h5) hr
    · cases hio
  · rename_i t x ho
    obtain ⟨⟨n, agg⟩, h1, h2⟩ := bind_some hio
    obtain ⟨X, h3, h4⟩ := bind_some h2
    split at h4
    · cases h4
    · cases h4
      exact ev_load R hd (lookX_rel h3).1 ho h1 hr
  · rename_i t x v ho
    obtain ⟨n, h1, h2⟩ := bind_some hio
    obtain ⟨X, h3, h4⟩ := bind_some h2
    obtain ⟨V', h5, h6⟩ := bind_some h4
    split at h6
    · cases h6
    · rename_i hn
      cases h6
      obtain ⟨g1, g2⟩ := compX_rel h5
      exact ev_store R hH hd (lookX_rel h3).1 g1 g2 ho h1 hn hr
  · rename_i x ho
    obtain ⟨X, h1, rfl⟩ := map_some' hio
    exact ev_nilck R hd (lookX_rel h1).1 ho hr
  · rename_i op t x y yt ho
    obtain ⟨tc, h1, h2⟩ := bind_some hio
    obtain ⟨X, h3, h4⟩ := bind_some h2
    obtain ⟨Y, h5, h6⟩ := bind_some h4
    cases h6
    exact ev_bin R hd (lookX_rel h3).1 (lookX_rel h5).1 ho h1 hr
  · rename_i op t x ho
    obtain ⟨X, h1, rfl⟩ := map_some' hio
    exact ev_un R hd (lookX_rel h1).1 ho hr
  · rename_i s dt x ho
    obtain ⟨X, h1, h2⟩ := bind_some hio
    obtain ⟨g1, g2⟩ := lookX_rel h1
    split at h2
    · rename_i k k' hs hdt; cases h2; exact ev_convInt R hd g1 ho hs hdt hr
    · rename_i hs hdt; cases h2; exact ev_convSame R hd g1 ho hs hdt hr
    · rename_i e hs hdt
      split at h2
      · rename_i hu; cases h2; exact ev_strBytes R hH hd g1 ho hs hdt (isU8_inv hu) hr
      · cases h2
    · rename_i e hs hdt
      split at h2
      · rename_i hu; cases h2; exact ev_convBytes R hd g1 g2 ho hs hdt (isU8_inv hu) hr
      · cases h2
    · cases h2
  · rename_i f x y ho
    obtain ⟨n, h1, h2⟩ := bind_some hio
    obtain ⟨xs, h3, h4⟩ := bind_some h2
    obtain ⟨ys, h5, h6⟩ := bind_some h4
    cases h6
    obtain ⟨g1, g2⟩ := mapM_inv _ h3
    obtain ⟨g3, g4⟩ := mapM_inv _ h5
    refine ev_mkfn R hH hd h1 g1 (fun j X z hX hz => ?_) g3 (fun j X z hX hz => ?_) ho hr
    · obtain ⟨z', k1, k2⟩ := g2 j X hX
      rw [hz] at k1; cases k1
      exact lookX_rel k2
    · obtain ⟨z', k1, k2⟩ := g4 j X hX
      rw [hz] at k1; cases k1
      exact lookX_rel k2
  · rename_i t l c ho
    split at hio
    · rename_i e ht
      obtain ⟨i, h1, h2⟩ := bind_some hio
      obtain ⟨zs, h3, h4⟩ := bind_some h2
      obtain ⟨row, h5, h6⟩ := bind_some h4
      obtain ⟨LX, h7, h8⟩ := bind_some h6
      obtain ⟨CX, h9, h10⟩ := bind_some h8
      split at h10
      · cases h10
      · rename_i hs
        cases h10
        exact ev_mkslice R hH hd (lookX_rel h7).1 (lookX_rel h9).1 ho ht h1 h3 h5 hs hr
    · cases hio
  · rename_i t x lo hi mx ho
    obtain ⟨X, h1, h2⟩ := bind_some hio
    obtain ⟨LO, h3, h4⟩ := bind_some h2
    obtain ⟨HI, h5, h6⟩ := bind_some h4
    obtain ⟨MX, h7, h8⟩ := bind_some h6
    obtain ⟨l1, l2⟩ := lookOpt h3
    obtain ⟨l3, l4⟩ := lookOpt h5
    obtain ⟨l5, l6⟩ := lookOpt h7
    split at h8
    · rename_i ht
      split at h8
      · cases h8
      · rename_i hm
        cases h8
        have hmn : mx = none := by
          cases mx with
          | none => rfl
          | some m => obtain ⟨y, hy, _⟩ := l5 m rfl; simp [hy] at hm
        subst hmn
        exact ev_sliceStr R hd (lookX_rel h1).1 ho ht l1 l2 l3 l4 hr
    · rename_i e ht
      obtain ⟨n, h9, h10⟩ := bind_some h8
      split at h10
      · cases h10
      · rename_i hcond
        cases h10
        refine ev_slice R hd (lookX_rel h1).1 ho ht h9 (fun h => hcond (.inl h)) l1 l2 l3 l4 l5 l6 (fun hm hh => ?_) hr
        apply hcond
        right
        cases mx with
        | none => exact absurd rfl hm
        | some m => obtain ⟨y, hy, _⟩ := l5 m rfl; exact ⟨by rw [hy]; rfl, by rw [l4 hh]; rfl⟩
    · cases h8
  · rename_i s x fi ho
    split at hio
    · rename_i fs hs
      obtain ⟨f, h1, h2⟩ := bind_some hio
      obtain ⟨n, h3, h4⟩ := bind_some h2
      obtain ⟨X, h5, h6⟩ := bind_some h4
      split at h6
      · cases h6
      · rename_i hn
        cases h6
        exact ev_fieldA R hd (lookX_rel h5).1 ho hs h1 h3 hn hr
    · cases hio
  · rename_i t x fi ho
    split at hio
    · rename_i fs hs
      obtain ⟨f, h1, h2⟩ := bind_some hio
      obtain ⟨⟨n, agg⟩, h3, h4⟩ := bind_some h2
      obtain ⟨X, h5, h6⟩ := bind_some h4
      cases h6
      obtain ⟨g1, g2⟩ := lookX_rel h5
      exact ev_field R hd g1 g2 ho hs h1 h3 hr
    · cases hio
  · rename_i t x i ho
    split at hio
    · rename_i e ht
      obtain ⟨n, h1, h2⟩ := bind_some hio
      obtain ⟨X, h3, h4⟩ := bind_some h2
      obtain ⟨I, h5, h6⟩ := bind_some h4
      split at h6
      · cases h6
      · cases h6
        exact ev_indexA R hd (lookX_rel h3).1 (lookX_rel h5).1 ho ht h1 hr
    · rename_i k e ht
      obtain ⟨n, h1, h2⟩ := bind_some hio
      obtain ⟨X, h3, h4⟩ := bind_some h2
      obtain ⟨I, h5, h6⟩ := bind_some h4
      split at h6
      · cases h6
      · cases h6
        exact ev_indexR R hd (lookX_rel h3).1 (lookX_rel h5).1 ho ht h1 hr
    · cases hio
  · rename_i t x i ho
    split at hio
    · rename_i ht
      obtain ⟨X, h3, h4⟩ := bind_some hio
      obtain ⟨I, h5, h6⟩ := bind_some h4
      cases h6
      exact ev_index R hd (lookX_rel h3).1 (lookX_rel h5).1 ho ht hr
    · cases hio
  · rename_i x j ho
    obtain ⟨X, h1, rfl⟩ := map_some' hio
    exact ev_extract R hd (lookX_rel h1).1 ho hr
  · rename_i t x ho
    split at hio
    · cases hio
    · rename_i dd hnd ht
      obtain ⟨X, h1, rfl⟩ := map_some' hio
      exact ev_mkif R hd ho ht (fun m e => hnd m e) hr
    · cases hio
  · rename_i c ho
    unfold compCall at hio
    split at hio
    · rename_i f hf
      obtain ⟨F, h1, h2⟩ := bind_some hio
      split at h2
      · rename_i hsz
        obtain ⟨xs, h3, h4⟩ := bind_some h2
        cases h4
        obtain ⟨g1, g2⟩ := lookX_rel h1
        obtain ⟨g3, g4⟩ := zip_mapM h3 (by simpa using hsz)
        refine hc R hH hd ho hf g1 g2 (by simpa using g3) (fun j x y hx hy => ?_) hr
        rw [List.getElem?_map] at hx
        cases hz : (xs.zipIdx)[j]? with
        | none => simp [hz] at hx
        | some p =>
          simp only [hz, Option.map_some, Option.some.injEq] at hx
          subst hx
          rw [List.getElem?_zipIdx] at hz
          cases hxj : xs[j]? with
          | none => simp [hxj] at hz
          | some X =>
            simp only [hxj, Option.map_some, Option.some.injEq] at hz
            subst hz
            exact g4 j X y hxj hy
      · cases h2
    · rename_i hb
      split at hio
      · rename_i x t hx ht
        have hcc : c = ⟨.builtin .len, #[x], #[t]⟩ := by obtain ⟨cl, ca, ct⟩ := c; simp only at hb hx ht; subst hb; congr <;> (apply Array.ext'; simpa using by assumption)
        subst hcc
        split at hio
        · rename_i hu
          obtain ⟨X, h1, rfl⟩ := map_some' hio
          exact ev_len R hd (lookX_rel h1).1 ho (by simpa using hu) hr
        · rename_i e hu
          obtain ⟨X, h1, rfl⟩ := map_some' hio
          exact ev_len R hd (lookX_rel h1).1 ho (by simpa using ⟨e, hu⟩) hr
        · cases hio
      · cases hio
    · rename_i hb
      split at hio
      · rename_i x y t u hx ht
        have hcc : c = ⟨.builtin .append, #[x, y], #[t, u]⟩ := by obtain ⟨cl, ca, ct⟩ := c; simp only at hb hx ht; subst hb; congr <;> (apply Array.ext'; simpa using by assumption)
        subst hcc
        split at hio
        · rename_i e hte
          obtain ⟨i, h1, h2⟩ := bind_some hio
          obtain ⟨zs, h3, h4⟩ := bind_some h2
          obtain ⟨X, h5, h6⟩ := bind_some h4
          obtain ⟨g1, g2⟩ := compX_rel h5
          split at h6
          · rename_i e' hue
            obtain ⟨Y, h7, h8⟩ := bind_some h6
            split at h8
            · cases h8
            · rename_i hcond
              cases h8
              obtain ⟨g3, g4⟩ := compX_rel h7
              obtain ⟨z, T⟩ := appT_of hte hue (by simp) h1 h3 (fun h => hcond (.inl h)) (fun h => hcond (.inr h))
              exact ev_app R hH hd g1 g2 g3 g4 ho T hr
          · rename_i hue
            obtain ⟨Y, h7, h8⟩ := bind_some h6
            split at h8
            · rename_i hcond
              cases h8
              obtain ⟨z, T⟩ := appT_of hte hue (by simp) h1 h3 (by omega) (by omega)
              rw [hcond.1, hcond.2.1] at T
              exact ev_appS R hH hd g1 g2 (lookX_rel h7).1 ho T hr
            · cases h8
          · cases h6
        · cases hio
      · cases hio
    · rename_i hb
      split at hio
      · rename_i x y t u hx ht
        have hcc : c = ⟨.builtin .min, #[x, y], #[t, u]⟩ := by obtain ⟨cl, ca, ct⟩ := c; simp only at hb hx ht; subst hb; congr <;> (apply Array.ext'; simpa using by assumption)
        subst hcc
        obtain ⟨X, h3, h4⟩ := bind_some hio
        obtain ⟨Y, h5, h6⟩ := bind_some h4
        cases h6
        exact ev_min R hd (lookX_rel h3).1 (lookX_rel h5).1 ho hr
      · cases hio
    · rename_i hb
      split at hio
      · rename_i x y t u hx ht
        have hcc : c = ⟨.builtin .max, #[x, y], #[t, u]⟩ := by obtain ⟨cl, ca, ct⟩ := c; simp only at hb hx ht; subst hb; congr <;> (apply Array.ext'; simpa using by assumption)
        subst hcc
        obtain ⟨X, h3, h4⟩ := bind_some hio
        obtain ⟨Y, h5, h6⟩ := bind_some h4
        cases h6
        exact ev_max R hd (lookX_rel h3).1 (lookX_rel h5).1 ho hr
      · cases hio
    · cases hio
  · cases hio
end
end Go.Abs
