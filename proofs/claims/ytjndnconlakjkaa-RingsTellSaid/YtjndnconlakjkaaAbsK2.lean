/- What the continuation form answers, the evaluator answers. -/
import Derived.Test.YtjndnconlakjkaaAbsK
import Derived.Test.YtjndnconlakjkaaAbsMem3
set_option linter.unusedVariables false
set_option linter.unusedSimpArgs false
namespace Go.Abs

theorem runK_eq {α R : Type} (S : St) (q : Q α) : ∀ (rs : List Key) (K : α → List Key → Option R), runK S q rs K = match q.run S with | some a => K a ((q.reads S).reverse ++ rs) | none => none := by
  induction q with
  | ret a => intro rs K; rfl
  | get k f ih =>
    intro rs K
    simp only [runK, Q.run, Q.reads, ih, List.reverse_cons, List.append_assoc, List.cons_append, List.nil_append]
  | cps h nat f ih =>
    intro rs K
    simp only [runK, Q.run, Q.reads]
    rw [nat, nat α, nat (List Key)]
    cases h _ some with
    | none => rfl
    | some b => simp only [Option.bind, Option.getD]; exact ih b rs K
  | no => intro rs K; rfl

theorem Q.reads_bind {α β : Type} (S : St) (x : Q α) (f : α → Q β) : (x >>= f).reads S = x.reads S ++ (match x.run S with | some a => (f a).reads S | none => []) := by
  show (x.bind f).reads S = _
  induction x with
  | ret a => rfl
  | get k g ih => simp only [Q.bind, Q.reads, Q.run]; rw [ih]; rfl
  | cps h nat g ih =>
    simp only [Q.bind, Q.reads, Q.run]
    rw [nat, nat _ (fun b => some ((g b).reads S)), nat α]
    cases h _ some with
    | none => rfl
    | some b => simp only [Option.bind, Option.getD]; exact ih b
  | no => rfl

/-- What the one answers, the other answers, reading the same. -/
def Q.le {α : Type} (p q : Q α) : Prop := ∀ S x, p.run S = some x → q.run S = some x ∧ p.reads S = q.reads S
theorem Q.le.refl {α : Type} (p : Q α) : p.le p := fun _ _ h => ⟨h, rfl⟩
theorem Q.le.bind {α β : Type} {p q : Q α} {f g : α → Q β} (h : p.le q) (hf : ∀ a, (f a).le (g a)) : (p >>= f).le (q >>= g) := by
  intro S x hx
  rw [Q.run_bind] at hx
  cases hp : p.run S with
  | none => simp [hp] at hx
  | some a =>
    simp only [hp, Option.bind] at hx
    obtain ⟨h1, h2⟩ := h S a hp
    obtain ⟨h3, h4⟩ := hf a S x hx
    refine ⟨by rw [Q.run_bind, h1]; exact h3, ?_⟩
    rw [Q.reads_bind, Q.reads_bind, hp, h1, h2]
    simp only [h4]
theorem Q.le.bindr {α β : Type} {p : Q α} {f g : α → Q β} (hf : ∀ a, (f a).le (g a)) : (p >>= f).le (p >>= g) := (Q.le.refl p).bind hf
theorem Q.le.no {α : Type} (q : Q α) : (Q.no : Q α).le q := by intro S x h; cases h
/-- Readings that read nothing. -/
theorem Q.le.of_run {α : Type} {p q : Q α} (h : ∀ S x, p.run S = some x → q.run S = some x) (hp : ∀ S, p.reads S = []) (hq : ∀ S, q.reads S = []) : p.le q :=
  fun S x hx => ⟨h S x hx, by rw [hp, hq]⟩

theorem decD_inv : ∀ (s : DS) (x : D) (v : s.T), decD s x = some v → encD s v some = some x := by
  intro s x v h
  cases s <;> cases x <;> simp only [decD] at h <;> try cases h
  · split at h <;> cases h; rename_i hk; subst hk; rfl
  · rfl
  · rfl
  · rename_i t sz' rows
    cases t <;> simp only at h
    · split at h <;> cases h; rename_i hk; subst hk; rfl
    · cases h
  · rename_i t sz' rows
    cases t <;> simp only at h
    · cases h
    · split at h <;> cases h; rename_i hk; subst hk; rfl
  · rename_i t sz' rows
    split at h <;> cases h; rename_i hk; subst hk
    cases t <;> rfl
theorem decRow_inv : ∀ (ds : List DS) (l : List D) (v : RowT ds), decRow ds l = some v → encRow ds v some = some l
  | [], [], v, _ => rfl
  | [], x :: l, v, h => by cases h
  | s :: t, [], v, h => by cases h
  | s :: t, x :: l, v, h => by
    simp only [decRow] at h
    cases h1 : decD s x with
    | none => simp [h1] at h
    | some a =>
      cases h2 : decRow t l with
      | none => simp [h1, h2] at h
      | some b =>
        simp only [h1, h2, Option.some.injEq] at h
        subst h
        simp only [encRow]
        rw [decD_enc, decD_inv s x a h1]
        simp only [Option.bind]
        rw [encRow_nat, decRow_inv t l b h2]
        rfl
theorem dataL_invK : ∀ {cs : List C} {l : List D}, dataL cs = some l → cs = l.map .d
  | [], l, h => by cases h; rfl
  | c :: t, l, h => by
    cases c <;> simp only [dataL] at h <;> try cases h
    rename_i x
    cases h1 : dataL t with
    | none => simp [h1] at h
    | some l1 => simp [h1] at h; subst h; simp [dataL_invK h1]
theorem decV_inv (s : VS) (x : V) (v : s.T) (h : decV s x = some v) : encV s v some = some x := by
  cases s with
  | one s =>
    cases x with
    | one c =>
      cases c <;> simp only [decV] at h <;> try cases h
      simp only [encV]
      rw [decD_enc, decD_inv s _ v h]
      rfl
    | agg cs => cases h
    | tup vs => cases h
  | agg ds =>
    cases x with
    | agg cs =>
      simp only [decV] at h
      cases h1 : dataL cs with
      | none => simp [h1] at h
      | some l =>
        simp only [h1] at h
        simp only [encV]
        rw [encRow_nat, decRow_inv ds l v h, dataL_invK h1]
        rfl
    | one c => cases h
    | tup vs => cases h
theorem decVs_inv : ∀ (ss : List VS) (l : List V) (v : VSsT ss), decVs ss l = some v → encVs ss v some = some l
  | [], [], v, _ => rfl
  | [], x :: l, v, h => by cases h
  | s :: t, [], v, h => by cases h
  | s :: t, x :: l, v, h => by
    simp only [decVs] at h
    cases h1 : decV s x with
    | none => simp [h1] at h
    | some a =>
      cases h2 : decVs t l with
      | none => simp [h1, h2] at h
      | some b =>
        simp only [h1, h2, Option.some.injEq] at h
        subst h
        simp only [encVs]
        rw [encV_nat, decV_inv s x a h1]
        simp only [Option.bind]
        rw [encVs_nat, decVs_inv t l b h2]
        rfl
theorem decBs_inv : ∀ (ss : List (List DS)) (l : List (List C)) (v : BoxT ss), decBs ss l = some v → encBs ss v some = some l
  | [], [], v, _ => rfl
  | [], x :: l, v, h => by cases h
  | s :: t, [], v, h => by cases h
  | s :: t, x :: l, v, h => by
    simp only [decBs] at h
    cases h0 : dataL x with
    | none => simp [h0] at h
    | some x' =>
      simp only [h0] at h
      cases h1 : decRow s x' with
      | none => simp [h1] at h
      | some a =>
        cases h2 : decBs t l with
        | none => simp [h1, h2] at h
        | some b =>
          simp only [h1, h2, Option.some.injEq] at h
          subst h
          simp only [encBs]
          rw [encRow_nat, decRow_inv s x' a h1]
          simp only [Option.bind]
          rw [encBs_nat, decBs_inv t l b h2, dataL_invK h0]
          rfl
theorem decR_inv (s : RS) (x : V × List (List C)) (v : s.T) (h : decR s x = some v) : encR s v some = some x := by
  obtain ⟨x, out⟩ := x
  cases s with
  | val s bs =>
    simp only [decR] at h
    cases h1 : decV s x with
    | none => simp [h1] at h
    | some a =>
      cases h2 : decBs bs out with
      | none => simp [h1, h2] at h
      | some b =>
        simp only [h1, h2, Option.some.injEq] at h
        subst h
        simp only [encR]
        rw [encV_nat, decV_inv s x a h1]
        simp only [Option.bind]
        rw [encBs_nat, decBs_inv bs out b h2]
        rfl
  | tup ss bs =>
    cases x with
    | tup xs =>
      simp only [decR] at h
      cases h1 : decVs ss xs with
      | none => simp [h1] at h
      | some a =>
        cases h2 : decBs bs out with
        | none => simp [h1, h2] at h
        | some b =>
          simp only [h1, h2, Option.some.injEq] at h
          subst h
          simp only [encR]
          rw [encVs_nat, decVs_inv ss xs a h1]
          simp only [Option.bind]
          rw [encBs_nat, decBs_inv bs out b h2]
          rfl
    | one c => cases h
    | agg cs => cases h

theorem rowA_le (an : Ann) (dst : Nat) (l : List D) : (rowA an dst l).le (pure l) := by
  unfold rowA
  cases an.row dst with
  | none => exact Q.le.refl _
  | some ds =>
    have hkey : ∀ (R : Type) (k : List D → Option R) x, (tRow ds l fun v => encRow ds v k) = some x → k l = some x := by
      intro R k x h
      unfold tRow at h
      cases h1 : decRow ds l with
      | none => simp [h1] at h
      | some v =>
        simp only [h1] at h
        rw [encRow_nat, decRow_inv ds l v h1] at h
        exact h
    intro S x h
    have hr : (tRow ds l fun v => encRow ds v fun b => (Q.ret b : Q (List D)).run S) = some x := h
    have h1 := hkey _ _ _ hr
    refine ⟨h1, ?_⟩
    show ((tRow ds l fun v => encRow ds v fun b => some ((Q.ret b : Q (List D)).reads S)).getD []) = []
    cases hh : (tRow ds l fun v => encRow ds v fun b => some ((Q.ret b : Q (List D)).reads S)) with
    | none => rfl
    | some y => have := hkey _ _ _ hh; simp only [Q.reads, Option.some.injEq] at this; rw [← this]; rfl

theorem resA_le (an : Ann) (f : Nat) (o : Option (V × List (List C))) : (resA an f o).le (Q.ofO o) := by
  unfold resA
  cases an.res f with
  | none => exact Q.le.refl _
  | some s =>
    have hkey : ∀ (R : Type) (k : V × List (List C) → Option R) x, (tRes s o fun v => encR s v k) = some x → ∃ y, o = some y ∧ k y = some x := by
      intro R k x h
      unfold tRes at h
      cases o with
      | none => simp at h
      | some y =>
        simp only at h
        cases h1 : decR s y with
        | none => simp [h1] at h
        | some v =>
          simp only [h1] at h
          rw [encR_nat, decR_inv s y v h1] at h
          exact ⟨y, rfl, h⟩
    intro S x h
    have hr : (tRes s o fun v => encR s v fun b => (Q.ret b : Q (V × List (List C))).run S) = some x := h
    obtain ⟨y, ho, h1⟩ := hkey _ _ _ hr
    subst ho
    simp only [Q.run, Option.some.injEq] at h1
    subst h1
    refine ⟨by simp, ?_⟩
    show ((tRes s (some y) fun v => encR s v fun b => some ((Q.ret b : Q (V × List (List C))).reads S)).getD []) = []
    cases hh : (tRes s (some y) fun v => encR s v fun b => some ((Q.ret b : Q (V × List (List C))).reads S)) with
    | none => rfl
    | some z => obtain ⟨_, _, h4⟩ := hkey _ _ _ hh; simp only [Q.reads, Option.some.injEq] at h4; rw [← h4]; rfl

theorem callA_le (an : Ann) (Cl : Oracle) (dst f : Nat) (vs : List V) (ws : List Wr) : (callA an Cl dst f vs ws).le (callF Cl dst f vs ws) := by
  unfold callA callF
  refine .bindr fun _ => .bindr fun x => ?_
  obtain ⟨rs, bs⟩ := x
  refine .bindr fun vs' => .bindr fun bs' => (resA_le an f _).bind fun x => ?_
  exact .refl _

@[simp] theorem Q.reads_pure {α : Type} (S : St) (a : α) : (pure a : Q α).reads S = [] := rfl
@[simp] theorem Q.reads_guard (S : St) (b : Bool) : (Q.guard b).reads S = [] := by cases b <;> rfl
@[simp] theorem Q.reads_ask (S : St) (b : Bool) : (Q.ask b).reads S = [] := by cases b <;> rfl
@[simp] theorem Q.reads_ofO {α : Type} (S : St) (o : Option α) : (Q.ofO o).reads S = [] := by cases o <;> rfl
theorem Q.reads_guard_pure {α : Type} (S : St) (b : Bool) (x : α) : (Q.guard b >>= fun _ => (pure x : Q α)).reads S = [] := by
  cases b <;> rfl

theorem binA_le (tc : TC) (op : BinOp) (x y : V) : (binA tc op x y).le (Q.ofO (binV tc op x y)) := by
  unfold binA
  split
  · rename_i k a k' b
    split
    · refine .of_run (fun S x h => ?_) (fun S => Q.reads_guard_pure ..) (fun S => by simp)
      simp only [Q.run_bind, Q.run_guard, Q.run_pure] at h
      by_cases hg : (decide (k = k') && !decide (b = 0)) = true
      · simp only [Bool.and_eq_true, decide_eq_true_eq, Bool.not_eq_true', decide_eq_false_iff_not] at hg
        obtain ⟨rfl, hb⟩ := hg
        simpa [hb, binV, intOp] using h
      · simp [hg] at h
    · refine .of_run (fun S x h => ?_) (fun S => Q.reads_guard_pure ..) (fun S => by simp)
      simp only [Q.run_bind, Q.run_guard, Q.run_pure] at h
      by_cases hg : (decide (k = k') && !decide (b = 0)) = true
      · simp only [Bool.and_eq_true, decide_eq_true_eq, Bool.not_eq_true', decide_eq_false_iff_not] at hg
        obtain ⟨rfl, hb⟩ := hg
        simpa [hb, binV, intOp] using h
      · simp [hg] at h
    · refine .of_run (fun S x h => ?_) (fun S => Q.reads_guard_pure ..) (fun S => by simp)
      simp only [Q.run_bind, Q.run_guard, Q.run_pure] at h
      by_cases hb : b < 0
      · simp [hb] at h
      · simpa [hb, binV, shiftOp] using h
    · refine .of_run (fun S x h => ?_) (fun S => Q.reads_guard_pure ..) (fun S => by simp)
      simp only [Q.run_bind, Q.run_guard, Q.run_pure] at h
      by_cases hb : b < 0
      · simp [hb] at h
      · simpa [hb, binV, shiftOp] using h
    · exact .refl _
  · rename_i a b
    split
    · refine .of_run (fun S x h => ?_) (fun S => Q.reads_guard_pure ..) (fun S => by simp)
      simp only [Q.run_bind, Q.run_guard, Q.run_pure] at h
      by_cases hb : a.length + b.length ≤ 9223372036854775807
      · simpa [hb, binV, strOp] using h
      · simp [hb] at h
    · exact .refl _
  · exact .refl _

theorem appToA_le (sz bytes : Nat) (v : V) (ws : List Wr) (src : List (List D)) : (appToA sz bytes v ws src).le (appTo sz bytes v ws src) := by
  unfold appToA
  split
  · rename_i b sz' rows
    refine Q.le.bindr fun _ => ?_
    intro S x h
    simp only [Q.run_bind, Q.run_ask, Option.bind] at h
    exact ⟨h, by cases src <;> rfl⟩
  · exact .refl _

def Q.leAt {α : Type} (S : St) (p q : Q α) : Prop := ∀ x, p.run S = some x → q.run S = some x ∧ p.reads S = q.reads S
theorem Q.leAt.bindr {α β : Type} {S : St} {p : Q α} {f g : α → Q β} (hf : ∀ a, p.run S = some a → Q.leAt S (f a) (g a)) : Q.leAt S (p >>= f) (p >>= g) := by
  intro x hx
  rw [Q.run_bind] at hx
  cases hp : p.run S with
  | none => simp [hp] at hx
  | some a =>
    simp only [hp, Option.bind] at hx
    obtain ⟨h3, h4⟩ := hf a hp x hx
    refine ⟨by rw [Q.run_bind, hp]; exact h3, ?_⟩
    rw [Q.reads_bind, Q.reads_bind, hp]
    simp only [h4]

theorem elWrs_eq {pl : Place} {i : Nat} : ∀ (zs olds : List D) (c : Nat) (v : V) (x : D) (ws : List Wr) (sz : Nat) (rows : List (List D)) (row : List D), navD x pl.p = some (.sl .own sz rows) → rows[i]? = some row →
    (∀ (j : Nat) o, olds[j]? = some o → row[c + j]? = some o) → olds.length = zs.length → elWrs v pl i c zs x ws = some (elWrsA pl i v c zs olds x ws)
  | [], olds, c, v, x, ws, sz, rows, row, _, _, _, _ => by simp [elWrs, elWrsA]
  | z :: t, [], c, v, x, ws, sz, rows, row, _, _, _, h => by cases h
  | z :: t, o :: os, c, v, x, ws, sz, rows, row, hn, hr, ho, hl => by
    have hc : row[c]? = some o := by simpa using ho 0 o rfl
    have hcell : cellOf rows i c = some o := cellOf_some.2 ⟨row, hr, hc⟩
    have hnav : navD x (pl.p ++ [(i, c)]) = some o := by
      rw [navD_append, hn]
      simp only [Option.bind_some]
      rw [navD_cons, hcell]
      simp only [Option.bind_some]
      cases o <;> rfl
    simp only [elWrs, hnav, elWrsA]
    have hi : i < rows.length := (List.getElem?_eq_some_iff.1 hr).1
    have hg : rows.getD i [] = row := by
      rw [List.getD_eq_getElem?_getD, hr]; rfl
    refine elWrs_eq t os (c + 1) _ _ _ sz (rows.set i (row.set c z)) (row.set c z) ?_ ?_ ?_ (by simpa using hl)
    · rw [navD_setD pl.p hn hcell, hg]
    · simp [hi]
    · intro j o' hj
      have := ho (j + 1) o' hj
      rw [List.getElem?_set_ne (by omega)]
      rw [show c + 1 + j = c + (j + 1) by omega]
      exact this

theorem evOpA_le (an : Ann) (Cl : Oracle) (dst : Nat) (op : IOp) : (evOpA an Cl dst op).le (evOp Cl dst op) := by
  cases op with
  | pick c a b =>
    unfold evOpA evOp
    refine .bindr fun v => ?_
    split
    · rename_i t
      cases t with
      | true =>
        intro S x h
        exact ⟨h, rfl⟩
      | false =>
        intro S x h
        exact ⟨h, rfl⟩
    · exact .no _
  | load n agg x =>
    unfold evOpA evOp
    refine .bindr fun v => ?_
    split
    · exact .refl _
    · rename_i cells
      refine .bindr fun _ => ?_
      have : (do let r' ← mkV agg ((cells.take n).map .d); pure (r', []) : Q (V × List Wr)) = (do let l ← (pure (cells.take n) : Q (List D)); let r' ← mkV agg (l.map .d); pure (r', [])) := rfl
      rw [this]
      exact (rowA_le an dst _).bind fun _ => .refl _
    · rename_i pl g sz i c
      refine .bindr fun y => ?_
      obtain ⟨e, x0, rows⟩ := y
      refine .bindr fun row => .bindr fun _ => ?_
      have : (do let r' ← mkV agg (lookRow pl g i c ((row.drop c).take n)); pure (r', []) : Q (V × List Wr)) = (do let l ← (pure ((row.drop c).take n) : Q (List D)); let r' ← mkV agg (lookRow pl g i c l); pure (r', [])) := rfl
      rw [this]
      exact (rowA_le an dst _).bind fun _ => .refl _
    · exact .no _
  | store mv n x v =>
    unfold evOpA evOp
    refine .bindr fun p => .bindr fun vv => .bindr fun _ => ?_
    split
    · exact .refl _
    · rename_i pl g sz i c
      intro S
      refine Q.leAt.bindr fun zz hz => Q.leAt.bindr fun er he => Q.leAt.bindr fun row hrow => ?_
      obtain ⟨zs, ws1⟩ := zz
      obtain ⟨e, x0, rows⟩ := er
      obtain ⟨_, _, _, hn⟩ := ownAt_run he
      simp only [Q.run_ofO] at hrow
      intro y hy
      rw [Q.run_bind, Q.run_guard] at hy
      by_cases hg : (decide (c + n ≤ row.length) && zs.length == n) = true
      · rw [if_pos hg] at hy
        simp only [Bool.and_eq_true, decide_eq_true_eq, beq_iff_eq] at hg
        simp only [Option.bind, Q.run_bind] at hy
        cases ho : (rowA an (slotOf x) ((row.drop c).take n)).run S with
        | none => simp [ho] at hy
        | some old =>
          have hold := (rowA_le an (slotOf x) _ S old ho).1
          simp only [Q.run_pure, Option.some.injEq] at hold
          simp only [ho, Q.run_guard] at hy
          by_cases hg2 : (old.length == n) = true
          · simp only [hg2, if_true, Q.run_pure, Option.some.injEq] at hy
            have hlen : old.length = zs.length := by
              have := beq_iff_eq.1 hg2
              omega
            have hel := elWrs_eq (pl := pl) (i := i) zs old c e.v x0 ws1 sz rows row hn hrow (by
              intro j o hj
              rw [← hold] at hj
              rw [List.getElem?_take] at hj
              split at hj
              · rwa [List.getElem?_drop] at hj
              · cases hj) hlen
            constructor
            · simp only [Q.run_bind, Q.run_guard, hg.1, decide_true, if_true, Option.bind, Q.run_ofO, hel, Q.run_pure, hy]
            · simp only [Q.reads_bind, Q.reads_guard, Q.run_guard, hg.1, hg.2, decide_true, beq_self_eq_true, Bool.and_self, if_true, (rowA_le an (slotOf x) _ S old ho).2, ho, hg2, Q.reads_pure, Q.reads_ofO, Q.run_ofO, hel, List.append_nil]
          · simp [hg2] at hy
      · rw [if_neg hg] at hy; cases hy
    · exact .no _
  | bin tc op x y =>
    unfold evOpA evOp
    exact .bindr fun a => .bindr fun b => (binA_le tc op a b).bind fun _ => .refl _
  | app sz bytes x y =>
    unfold evOpA evOp
    refine .bindr fun a => ?_
    obtain ⟨a, ws⟩ := a
    refine .bindr fun a => ?_
    obtain ⟨a, ws⟩ := a
    refine .bindr fun b => ?_
    exact appToA_le _ _ b.1 b.2 a
  | appS x y =>
    unfold evOpA evOp
    refine .bindr fun a => ?_
    split
    · refine .bindr fun a => ?_
      exact appToA_le _ _ a.1 a.2 _
    · exact .no _
  | call f args =>
    unfold evOpA evOp
    refine .bindr fun v => ?_
    split
    · refine .bindr fun a => ?_
      exact callA_le _ _ _ _ _ a.2
    · exact .no _
  | _ => exact .refl _

theorem St.put_same : ∀ (S : St) (k : Key) (e : Ent), S.get k = e → e ≠ ⟨.one .dead, 0⟩ → S.put k e = S
  | [], k, e, h, hn => absurd h.symm hn
  | (k', e') :: t, k, e, h, hn => by
    simp only [St.get] at h
    simp only [St.put]
    by_cases hk : k' = k
    · simp only [hk, if_true] at h ⊢; rw [h]
    · simp only [hk, if_false] at h ⊢; rw [St.put_same t k e h hn]

theorem withGuard_inv {R : Type} {S : St} {g : Option (Nat × Bool)} {K : Bool → St → List Key → Option R} {r : R} (h : withGuard S g K = some r) :
    ∃ want, (guardQ g).run S = some want ∧ K want S ((guardQ g).reads S).reverse = some r := by
  unfold withGuard at h
  cases g with
  | none => exact ⟨true, rfl, h⟩
  | some x =>
    obtain ⟨t, b⟩ := x
    simp only at h
    cases he : S.get (.s t) with
    | mk v c =>
      rw [he] at h
      have hrun : (guardQ (some (t, b))).run S = (match v with | .one (.d (.bool x)) => (pure (x == b) : Q Bool) | .tup [] => pure false | _ => Q.no).run S := by
        show (Q.run S (match (S.get (.s t)).v with | .one (.d (.bool x)) => (pure (x == b) : Q Bool) | .tup [] => pure false | _ => Q.no)) = _
        rw [he]
      have hrd : ∀ y, (match v with | .one (.d (.bool x)) => (pure (x == b) : Q Bool) | .tup [] => pure false | _ => Q.no) = pure y → (guardQ (some (t, b))).reads S = [.s t] := by
        intro y hy
        show (.s t :: Q.reads S (match (S.get (.s t)).v with | .one (.d (.bool x)) => (pure (x == b) : Q Bool) | .tup [] => pure false | _ => Q.no)) = _
        rw [he]
        simp only [hy]
        rfl
      split at h
      · rename_i x c' heq
        cases heq
        have h2 : K (x == b) (S.put (.s t) ⟨.one (.d (.bool x)), c⟩) [.s t] = some r := by
          cases x <;> exact h
        rw [St.put_same S _ _ he (by simp)] at h2
        refine ⟨x == b, by rw [hrun]; rfl, ?_⟩
        rw [hrd _ rfl]; exact h2
      · rename_i c' heq
        cases heq
        refine ⟨false, by rw [hrun]; rfl, ?_⟩
        rw [hrd _ rfl]; exact h
      · cases h

theorem evOperA_inv {R : Type} {an : Ann} {Cl : Oracle} {o : IOper} {S : St} {K : St → List Key → List Wr → Option R} {r : R} (h : evOperA an Cl o S K = some r) :
    ∃ ws, (evOper Cl o).run S = some ws ∧ K S ((evOper Cl o).reads S).reverse ws = some r := by
  unfold evOperA at h
  obtain ⟨want, h1, h2⟩ := withGuard_inv h
  clear h
  unfold evOper
  rw [Q.run_bind, Q.reads_bind, h1]
  simp only [Option.bind]
  cases want with
  | true =>
    simp only at h2
    rw [runK_eq] at h2
    cases hop : (evOpA an Cl (o.dst.getD 0) o.op).run S with
    | none => simp [hop] at h2
    | some x =>
      simp only [hop] at h2
      obtain ⟨h3, h4⟩ := evOpA_le an Cl (o.dst.getD 0) o.op S x hop
      rw [h4] at h2
      simp only [if_true]
      rw [Q.run_bind, Q.reads_bind, h3]
      obtain ⟨v, ws⟩ := x
      cases hd : o.dst with
      | none =>
        simp only [hd, Option.bind, Option.getD] at h2 ⊢
        exact ⟨ws, rfl, by simpa using h2⟩
      | some d =>
        simp only [hd, Option.bind, Option.getD] at h2 ⊢
        exact ⟨_, rfl, by simpa using h2⟩
  | false =>
    simp only at h2
    cases hd : o.dst with
    | none =>
      simp only [hd] at h2
      exact ⟨[], rfl, by simpa using h2⟩
    | some d =>
      simp only [hd] at h2
      exact ⟨_, rfl, by simpa using h2⟩

section
variable {R : Type} {r : R}
theorem fNat_inv : ∀ {f i g : Nat} {K : Nat → Option R}, fNat f i g K = some r → K g = some r
  | 0, _, _, _, h => by cases h
  | f + 1, i, g, K, h => by
    simp only [fNat] at h
    split at h
    · rename_i hb; rw [Nat.eq_of_beq_eq_true hb]; exact h
    · exact fNat_inv h
theorem fN_inv {g : Nat} {K : Nat → Option R} (h : fN g K = some r) : K g = some r := fNat_inv h
theorem fRoot_inv {x : Root} {K : Root → Option R} (h : fRoot x K = some r) : K x = some r := by cases x <;> exact h
theorem fKey_inv : ∀ {x : Key} {K : Key → Option R}, fKey x K = some r → K x = some r
  | .s _, _, h => h
  | .b _ _, _, h => fN_inv (fRoot_inv h)
  | .r _, _, h => fRoot_inv h
  | .h _, _, h => h
  | .a k, K, h => fKey_inv (x := k) (K := fun k => K (.a k)) h
theorem fTag_inv {x : Tag} {K : Tag → Option R} (h : fTag x K = some r) : K x = some r := by cases x <;> exact h
theorem fD_inv {x : D} {K : D → Option R} (h : fD x K = some r) : K x = some r := by
  cases x with
  | sl t sz rows => exact fTag_inv (K := fun t => K (.sl t sz rows)) h
  | _ => exact h
theorem fC_inv {x : C} {K : C → Option R} (h : fC x K = some r) : K x = some r := by
  cases x with
  | d x => exact fD_inv (K := fun x => K (.d x)) h
  | ptr a g c => exact fN_inv (K := fun c => K (.ptr a g c)) (fN_inv (K := fun g => fN c fun c => K (.ptr a g c)) (fRoot_inv (K := fun a => fN g fun g => fN c fun c => K (.ptr a g c)) h))
  | eptr pl g sz i c => exact fN_inv (K := fun c => K (.eptr pl g sz i c)) (fN_inv (K := fun g => fN c fun c => K (.eptr pl g sz i c)) h)
  | view pl g sz off len => exact fN_inv (K := fun g => K (.view pl g sz off len)) h
  | appd pl g a sz rows => exact fN_inv (K := fun a => K (.appd pl g a sz rows)) (fN_inv (K := fun g => fN a fun a => K (.appd pl g a sz rows)) h)
  | _ => exact h
theorem fCs_inv : ∀ {l : List C} {K : List C → Option R}, fCs l K = some r → K l = some r
  | [], _, h => h
  | c :: t, K, h => fCs_inv (K := fun t => K (c :: t)) (fC_inv (K := fun c => fCs t fun t => K (c :: t)) h)
theorem fVt_inv : ∀ {l : List V} {K : List V → Option R}, fVt l K = some r → K l = some r
  | [], _, h => h
  | .one c :: t, K, h => fVt_inv (K := fun t => K (.one c :: t)) (fC_inv (K := fun c => fVt t fun t => K (.one c :: t)) h)
  | .agg cs :: t, K, h => fVt_inv (K := fun t => K (.agg cs :: t)) (fCs_inv (K := fun cs => fVt t fun t => K (.agg cs :: t)) h)
  | .tup vs :: t, K, h => fVt_inv (K := fun t => K (.tup vs :: t)) h
theorem fV_inv {x : V} {K : V → Option R} (h : fV x K = some r) : K x = some r := by
  cases x with
  | one c => exact fC_inv (K := fun c => K (.one c)) h
  | agg cs => exact fCs_inv (K := fun cs => K (.agg cs)) h
  | tup vs => exact fVt_inv (K := fun vs => K (.tup vs)) h
theorem fKeep_inv {x : Bool} {K : Bool → Option R} (h : fKeep x K = some r) : K x = some r := by cases x <;> exact h
theorem fWs_inv : ∀ {l : List Wr} {K : List Wr → Option R}, fWs l K = some r → K l = some r
  | [], _, h => h
  | ⟨k, v, b⟩ :: t, K, h => by
    have h := fKeep_inv (fV_inv (fKey_inv h))
    exact fWs_inv (K := fun t => K (⟨k, v, b⟩ :: t)) h
theorem fBs_inv : ∀ {l : List (List C)} {K : List (List C) → Option R}, fBs l K = some r → K l = some r
  | [], _, h => h
  | c :: t, K, h => fBs_inv (K := fun t => K (c :: t)) (fCs_inv (K := fun c => fBs t fun t => K (c :: t)) h)
theorem fSt_inv : ∀ {l : St} {K : St → Option R}, fSt l K = some r → K l = some r
  | [], _, h => h
  | (k, ⟨v, g⟩) :: t, K, h => by
    have h := fN_inv (fV_inv (fKey_inv h))
    exact fSt_inv (K := fun t => K ((k, ⟨v, g⟩) :: t)) h
theorem fSpine_inv : ∀ {l : St} {K : St → Option R}, fSpine l K = some r → K l = some r
  | [], _, h => h
  | (k, ⟨v, g⟩) :: t, K, h => by
    have h := fN_inv h
    exact fSpine_inv (K := fun t => K ((k, ⟨v, g⟩) :: t)) h
end

theorem evOpsA_inv {R : Type} {an : Ann} {Cl : Oracle} : ∀ {ops : List IOper} {S : St} {K : St → Option R} {r : R}, evOpsA an Cl ops S K = some r →
    ∃ S', evOps Cl ops S = some S' ∧ K S' = some r
  | [], S, K, r, h => ⟨S, rfl, h⟩
  | o :: t, S, K, r, h => by
    simp only [evOpsA] at h
    obtain ⟨ws, h1, h2⟩ := evOperA_inv h
    obtain ⟨S', h3, h4⟩ := evOpsA_inv (fSpine_inv (fWs_inv h2))
    exact ⟨S', by simp only [evOps, h1, Option.bind]; exact h3, h4⟩
theorem evOpsFA_inv {R : Type} {an : Ann} {Cl : Oracle} : ∀ {ops : List IOper} {S : St} {fs : List Foot} {K : St → List Foot → Option R} {r : R}, evOpsFA an Cl ops S fs K = some r →
    ∃ S' fs', evOpsF Cl ops S = some (S', fs') ∧ K S' (fs.reverse ++ fs') = some r
  | [], S, fs, K, r, h => ⟨S, [], rfl, by simpa [evOpsFA] using h⟩
  | o :: t, S, fs, K, r, h => by
    simp only [evOpsFA] at h
    obtain ⟨ws, h1, h2⟩ := evOperA_inv h
    obtain ⟨S', fs', h3, h4⟩ := evOpsFA_inv (fSpine_inv (fWs_inv h2))
    refine ⟨S', _, by simp only [evOpsF, h1, Option.bind, h3, Option.map]; rfl, ?_⟩
    simpa using h4

theorem drawA_inv {R : Type} {an : Ann} {Cl : Oracle} {ops : List IOper} {draw : Option (List (Nat × Nat))} {S : St} {K : St → Option R} {r : R} (h : drawA an Cl ops draw S K = some r) :
    ∃ S', evReg Cl none false ops draw S = some S' ∧ K S' = some r := by
  unfold drawA at h
  unfold evReg
  simp only [Option.bind]
  split at h
  · obtain ⟨S', h1, h2⟩ := evOpsA_inv h
    exact ⟨S', by simpa using h1, h2⟩
  · obtain ⟨S', h1, h2⟩ := evOpsA_inv h
    exact ⟨S', by simpa using h1, h2⟩
  · rename_i ps hne
    obtain ⟨S', fs', h1, h2⟩ := evOpsFA_inv h
    simp only [List.reverse_nil, List.nil_append] at h2
    split at h2
    · rename_i hp
      refine ⟨S', ?_, h2⟩
      cases ps with
      | nil => exact absurd rfl hne
      | cons p ps => simp [h1, hp]
    · cases h2

theorem evReg_prep {Cl : Oracle} {keep : Option (List Nat)} {gc : Bool} {ops : List IOper} {draw : Option (List (Nat × Nat))} {S : St} :
    evReg Cl keep gc ops draw S = (S.prep keep gc).bind (evReg Cl none false ops draw) := by
  unfold evReg St.prep
  simp only [Option.bind_assoc]
  cases (match keep with | some l => S.norm l | none => some S) with
  | none => rfl
  | some S1 => simp only [Option.bind]; cases gc <;> rfl

theorem addHead_eq {Cl : Oracle} {n : Nat} {keep : Option (List Nat)} {gc : Bool} : ∀ {c : KCode}, c.headOk = true → ∀ (S : St),
    evC Cl n (addHead keep gc (ofK c)) S = (S.prep keep gc).bind (evC Cl n (ofK c))
  | .reg k g ops draw, h, S => by
    cases k with
    | none =>
      cases g with
      | false =>
        simp only [ofK, addHead]
        show (evReg Cl keep gc ops draw S).map _ = _
        rw [evReg_prep]
        cases S.prep keep gc <;> rfl
      | true => cases h
    | some => cases h
  | .seq a b, h, S => by
    simp only [ofK, addHead, evC]
    rw [addHead_eq (c := a) h S]
    cases S.prep keep gc <;> rfl
  | .block id b, h, S => by
    simp only [ofK, addHead, evC]
    rw [addHead_eq (c := b) h S]
    cases S.prep keep gc <;> rfl
  | .skip, h, _ => by cases h
  | .cond .., h, _ => by cases h
  | .loop .., h, _ => by cases h
  | .exit _, h, _ => by cases h
  | .ret, h, _ => by cases h

theorem condA_inv {R : Type} {S : St} {c : X} {K : Bool → Option R} {r : R} (h : condA S c K = some r) : ∃ b, condV S c = some b ∧ K b = some r := by
  unfold condA at h
  rw [runK_eq] at h
  unfold condV
  cases hr : (rd c).run S with
  | none => simp [hr] at h
  | some v =>
    simp only [hr] at h
    split at h
    · rename_i b
      refine ⟨b, rfl, ?_⟩
      cases b <;> exact h
    · cases h

theorem iterK_inv {R : Type} {id : Nat} {f : St → Kont R → Option R} {g : St → Option (IExit × St)} {keep : Option (List Nat)} {gc : Bool} {K : Kont R} {r : R}
    (hf : ∀ S K', f S K' = some r → ∃ e S', g S = some (e, S') ∧ K' e S' = some r) :
    ∀ (m : Nat) (S S1 : St), S.prep keep gc = some S1 → iterK id f keep gc m S1 K = some r → ∃ e S', iter (fun S => (S.prep keep gc).bind g) m S = some (e, S') ∧ K e S' = some r
  | 0, _, _, _, h => by cases h
  | m + 1, S, S1, hp, h => by
    simp only [iterK] at h
    obtain ⟨e, S', h1, h2⟩ := hf _ _ h
    simp only [iter, hp, Option.bind, h1]
    cases e with
    | norm =>
      simp only [nextK] at h2
      cases hp2 : S'.prep keep gc with
      | none => simp [hp2] at h2
      | some S2 =>
        simp only [hp2] at h2
        exact iterK_inv hf m S' S2 hp2 (fSt_inv h2)
    | exit i => exact ⟨_, _, rfl, h2⟩
    | ret => exact ⟨_, _, rfl, h2⟩

theorem evCA_inv {R : Type} {an : Ann} {Cl : Oracle} {n : Nat} : ∀ {c : KCode} {S : St} {K : Kont R} {r : R}, evCA an Cl n c S K = some r →
    ∃ e S', evC Cl n (ofK c) S = some (e, S') ∧ K e S' = some r
  | .skip, S, K, r, h => ⟨_, _, rfl, h⟩
  | .exit id, S, K, r, h => ⟨_, _, rfl, h⟩
  | .ret, S, K, r, h => ⟨_, _, rfl, h⟩
  | .reg keep gc ops draw, S, K, r, h => by
    simp only [evCA] at h
    cases hp : S.prep keep gc with
    | none => simp [hp] at h
    | some S1 =>
      simp only [hp] at h
      obtain ⟨S', h1, h2⟩ := drawA_inv (fSt_inv h)
      refine ⟨_, S', ?_, h2⟩
      simp only [ofK, evC, evReg_prep (keep := keep) (gc := gc), hp, Option.bind, h1]
      rfl
  | .seq a b, S, K, r, h => by
    simp only [evCA] at h
    obtain ⟨e, S1, h1, h2⟩ := evCA_inv h
    cases e with
    | norm =>
      simp only [seqK] at h2
      obtain ⟨e2, S2, h3, h4⟩ := evCA_inv h2
      exact ⟨e2, S2, by simp only [ofK, evC, h1, Option.bind]; exact h3, h4⟩
    | exit i => exact ⟨_, S1, by simp only [ofK, evC, h1, Option.bind], h2⟩
    | ret => exact ⟨_, S1, by simp only [ofK, evC, h1, Option.bind], h2⟩
  | .cond c a b, S, K, r, h => by
    simp only [evCA] at h
    obtain ⟨t, h1, h2⟩ := condA_inv h
    cases t with
    | true =>
      obtain ⟨e, S1, h3, h4⟩ := evCA_inv h2
      exact ⟨e, S1, by simp only [ofK, evC, h1, Option.bind, if_true]; exact h3, h4⟩
    | false =>
      obtain ⟨e, S1, h3, h4⟩ := evCA_inv h2
      exact ⟨e, S1, by simp only [ofK, evC, h1, Option.bind]; exact h3, h4⟩
  | .block id b, S, K, r, h => by
    simp only [evCA] at h
    obtain ⟨e, S1, h1, h2⟩ := evCA_inv h
    cases e with
    | norm => exact ⟨_, S1, by simp only [ofK, evC, h1, Option.map], h2⟩
    | exit i =>
      simp only [blockK] at h2
      split at h2
      · rename_i hb
        have hi : i = id := Nat.eq_of_beq_eq_true hb
        exact ⟨.norm, S1, by simp only [ofK, evC, h1, Option.map, hi, if_true], h2⟩
      · rename_i hb
        have hi : i ≠ id := by intro hi; subst hi; simp at hb
        exact ⟨.exit i, S1, by simp only [ofK, evC, h1, Option.map, hi, if_false], h2⟩
    | ret => exact ⟨_, S1, by simp only [ofK, evC, h1, Option.map], h2⟩
  | .loop id keep gc b, S, K, r, h => by
    simp only [evCA] at h
    split at h
    · rename_i hh
      cases hp : S.prep keep gc with
      | none => simp [hp] at h
      | some S1 =>
        simp only [hp] at h
        obtain ⟨e, S', h1, h2⟩ := iterK_inv (g := evC Cl n (ofK b)) (fun S K' h => evCA_inv h) n S S1 hp (fSt_inv h)
        refine ⟨e, S', ?_, h2⟩
        simp only [ofK, evC]
        have : (evC Cl n (addHead keep gc (ofK b))) = (fun S => (S.prep keep gc).bind (evC Cl n (ofK b))) := by
          funext S; exact addHead_eq hh S
        rw [this]
        exact h1
    · cases h

/-- What the continuation form answers for a function, the evaluator answers. -/
theorem evBodyA_inv {an : Ann} {Cl : Oracle} {n : Nat} {fn : KFunc} {args : List V} {bx : List (List C)} {r : V × List (List C)} (h : evBodyA an Cl n fn args bx = some r) :
    evBody Cl n fn.fn args bx = some r := by
  unfold evBodyA at h
  split at h
  · rename_i hl
    obtain ⟨e, S', h1, h2⟩ := evCA_inv h
    unfold evBody
    have hl' : args.length ≤ fn.fn.nslots := Nat.le_of_ble_eq_true hl
    rw [if_pos hl']
    have hb : fn.fn.body = ofK fn.body := rfl
    rw [hb, h1]
    simp only [Option.bind]
    unfold retK at h2
    split at h2
    · cases h2
    · rename_i hne
      rw [runK_eq] at h2
      have hev : evRet ⟨0, fn.results, .skip, fn.forget⟩ bx = evRet fn.fn bx := rfl
      rw [hev] at h2
      have key : (evRet fn.fn bx).run S' = some r := by
        cases hr : (evRet fn.fn bx).run S' with
        | none => simp [hr] at h2
        | some x =>
          simp only [hr] at h2
          have h3 := fBs_inv (fV_inv h2)
          simpa using h3
      cases e with
      | exit i => exact absurd rfl (hne i)
      | norm => exact key
      | ret => exact key
  · cases h
end Go.Abs
