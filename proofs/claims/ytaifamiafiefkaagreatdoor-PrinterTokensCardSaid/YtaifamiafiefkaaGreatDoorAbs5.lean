/- An evaluator of the model's code over plain data, and that what it answers the model does: part 6 of 11. -/
import Derived.Test.YtaifamiafiefkaaGreatDoorAbs4
import Derived.Laws.Strings
import Derived.Laws.StructEq
import Derived.Laws.BytesString
import Derived.Laws.BytesArg
import Derived.Laws.MakeOwn
set_option linter.unusedVariables false
set_option linter.unusedSimpArgs false
namespace Go.Abs
section
section
variable {nm : FuncId → Option Nat} {N : Nat} {S : St} {a : Act} {w : World} {L : LabF} {P : Program} {o : Oper} {Cl : Oracle} {d : Nat} {r : V × List Wr}
theorem execOp_binOp {op : BinOp} {t yt : TypeId} {x y : Operand} (ho : o.op = .binOp op t x y yt) (hg : (eqGuard op t x y (a.eval x) (a.eval y)).run P w = .ok () w) {v : Value} (hb : (binOp op t (a.eval x) (a.eval y)).run P w = .ok v w) :
    (execOp a.eval o).run P w = .ok (.value v) w := by
  simp [execOp, ho, hg, hb]
theorem eqGuard_plain {op : BinOp} {t : TypeId} {x y : Operand} {u v : Value} (h1 : ∀ p q, u = .agg p → v = .agg q → False) (h2 : u = .nilIface → v = .nilIface → (isConstO x = true ∨ isConstO y = true)) :
    (eqGuard op t x y u v).run P w = .ok () w := by
  unfold eqGuard
  by_cases ho : op = .eql ∨ op = .neq
  · have hm : (match op with | .eql => true | .neq => true | _ => false) = true := by rcases ho with rfl | rfl <;> rfl
    rcases ho with rfl | rfl
    all_goals
      simp only [Bool.not_true, Bool.false_eq_true, if_false]
      cases u <;> cases v <;> first
        | rfl
        | exact (h1 _ _ rfl rfl).elim
        | (rcases h2 rfl rfl with hc | hc
           · cases x <;> simp_all [isConstO]
           · cases y <;> simp_all [isConstO])
  · have h1' : op ≠ .eql := fun e => ho (.inl e)
    have h2' : op ≠ .neq := fun e => ho (.inr e)
    cases op <;> first | rfl | exact absurd rfl h1' | exact absurd rfl h2'
theorem intOp_run {op : BinOp} {k : IntKind} {x y : Int} {t : TypeId} {z : D} (h : intOp op k x y = some z) (hs1 : op ≠ .shl) (hs2 : op ≠ .shr) : ∃ v, (binOp op t (.int k x) (.int k y)).run P w = .ok v w ∧ RepP w L z v := by
  cases op
  case add => cases h; exact ⟨_, by simp [binOp, Op.intArith], .int⟩
  case sub => cases h; exact ⟨_, by simp [binOp, Op.intArith], .int⟩
  case mul => cases h; exact ⟨_, by simp [binOp, Op.intArith], .int⟩
  case and => cases h; exact ⟨_, by simp [binOp, Op.intBits], .int⟩
  case or => cases h; exact ⟨_, by simp [binOp, Op.intBits], .int⟩
  case xor => cases h; exact ⟨_, by simp [binOp, Op.intBits], .int⟩
  case andNot => cases h; exact ⟨_, by simp [binOp, Op.intBits], .int⟩
  case eql => cases h; exact ⟨_, by simp [binOp, Op.intCmp], .bool⟩
  case neq => cases h; exact ⟨_, by simp [binOp, Op.intCmp], .bool⟩
  case lss => cases h; exact ⟨.bool (decide (x < y)), by simp [binOp, Op.intCmp], .bool⟩
  case leq => cases h; exact ⟨.bool (decide (x ≤ y)), by simp [binOp, Op.intCmp], .bool⟩
  case gtr => cases h; exact ⟨.bool (decide (x > y)), by simp [binOp, Op.intCmp], .bool⟩
  case geq => cases h; exact ⟨.bool (decide (x ≥ y)), by simp [binOp, Op.intCmp], .bool⟩
  case quo =>
    simp only [intOp] at h
    split at h
    · cases h
    · rename_i hy
      cases h
      exact ⟨_, by simp [binOp, Op.intDiv, hy], .int⟩
  case rem =>
    simp only [intOp] at h
    split at h
    · cases h
    · rename_i hy
      cases h
      exact ⟨_, by simp [binOp, Op.intDiv, hy], .int⟩
  case shl => exact absurd rfl hs1
  case shr => exact absurd rfl hs2
theorem shiftOp_run {op : BinOp} (ho : op = .shl ∨ op = .shr) {k k' : IntKind} {x y : Int} {t : TypeId} {z : D} (h : shiftOp op k x y = some z) : ∃ v, (binOp op t (.int k x) (.int k' y)).run P w = .ok v w ∧ RepP w L z v := by
  unfold shiftOp at h
  split at h
  · cases h
  · rename_i hy
    rcases ho with rfl | rfl
    · simp only [Option.some.injEq] at h
      subst h
      exact ⟨_, by simp only [binOp, Op.shift, hy, if_false]; rfl, .int⟩
    · simp only [Option.some.injEq] at h
      subst h
      exact ⟨_, by simp only [binOp, Op.shift, hy, if_false]; rfl, .int⟩
theorem bytes_append (x y : List UInt8) : (⟨x.toArray⟩ : ByteArray) ++ ⟨y.toArray⟩ = ⟨(x ++ y).toArray⟩ := by
  apply ByteArray.ext
  simp [ByteArray.data_append]
theorem bytesLess_eq : ∀ x y : List UInt8, Op.bytesLess x y = bytesLess x y
  | [], [] => rfl
  | _ :: _, [] => rfl
  | [], _ :: _ => rfl
  | a :: x, b :: y => by simp [Op.bytesLess, bytesLess, bytesLess_eq x y]
theorem strOp_run {op : BinOp} {x y : List UInt8} {t : TypeId} {z : D} (h : strOp op x y = some z) : ∃ v, (binOp op t (.string ⟨x.toArray⟩) (.string ⟨y.toArray⟩)).run P w = .ok v w ∧ RepP w L z v := by
  cases op
  case add =>
    simp only [strOp] at h
    split at h
    · rename_i hl
      cases h
      refine ⟨.string ⟨(x ++ y).toArray⟩, ?_, .str⟩
      have h1 : ¬ (9223372036854775807 < (x.length : Int) + (y.length : Int)) := by omega
      have h2 : IntKind.i64.max = 9223372036854775807 := by decide
      simp [binOp, Op.stringOp, bytes_size, bytes_append, h2, h1]
    · cases h
  case eql => cases h; exact ⟨.bool (x == y), by simp [binOp, Op.stringOp], .bool⟩
  case neq => cases h; exact ⟨.bool (!(x == y)), by simp [binOp, Op.stringOp], .bool⟩
  case lss => cases h; exact ⟨.bool (bytesLess x y), by simp [binOp, Op.stringOp, bytesLess_eq], .bool⟩
  case leq => cases h; exact ⟨.bool (bytesLess x y || x == y), by simp [binOp, Op.stringOp, bytesLess_eq], .bool⟩
  case gtr => cases h; exact ⟨.bool (!(bytesLess x y || x == y)), by simp [binOp, Op.stringOp, bytesLess_eq], .bool⟩
  case geq => cases h; exact ⟨.bool (!bytesLess x y), by simp [binOp, Op.stringOp, bytesLess_eq], .bool⟩
  all_goals simp [strOp] at h
theorem map_some4 {α β : Type} {x : Option α} {f : α → β} {r : β} (h : x.map f = some r) : ∃ y, x = some y ∧ r = f y := by
  cases x with
  | none => cases h
  | some y => exact ⟨y, rfl, by simpa using h.symm⟩
theorem eqFlat_leaf {γ : Key → Nat} {k : Key} {i : Nat} {f : Field} {x : Fl} {l : List Fl} {c c' : C} {t t' : List C} {u u' : Value} {b : Bool} (hx : flatField P f = some x) (he : eqFlat (x :: l) (c :: t) (c' :: t') = some b)
    (r1 : RepC nm w L γ k i c u) (r2 : RepC nm w L γ k i c' u') : ∃ b1 b2, (∀ n, (Op.equalIn (n + 1) f.type u u').run P w = .ok b1 w) ∧ eqFlat l t t' = some b2 ∧ b = (b1 && b2) ∧ f.name ≠ "_" ∧ ∃ dd, P.underlying f.type = some dd ∧ aggD dd = false := by
  have hname : f.name ≠ "_" := by
    intro e
    simp [flatField, e] at hx
  simp only [flatField, hname, if_false] at hx
  split at hx
  · rename_i kk hty
    cases hx
    cases c <;> (try (simp [eqFlat] at he; done))
    rename_i z; cases z <;> (try (simp [eqFlat] at he; done))
    cases c' <;> (try (simp [eqFlat] at he; done))
    rename_i z; cases z <;> (try (simp [eqFlat] at he; done))
    rename_i k1 n1 k2 n2
    simp only [eqFlat] at he
    split at he
    · rename_i hk
      subst hk
      cases hb : eqFlat l t t' with
      | none => simp [hb] at he
      | some b2 =>
        simp only [hb, Option.map_some, Option.some.injEq] at he
        refine ⟨_, b2, fun n => ?_, rfl, he.symm, hname, _, hty, rfl⟩
        rw [r1.int_inv, r2.int_inv]; exact run_equalIn_int w n f.type k1 kk n1 n2 hty
    · cases he
  · rename_i hty
    cases hx
    cases c <;> (try (simp [eqFlat] at he; done))
    rename_i z; cases z <;> (try (simp [eqFlat] at he; done))
    cases c' <;> (try (simp [eqFlat] at he; done))
    rename_i z; cases z <;> (try (simp [eqFlat] at he; done))
    rename_i n1 n2
    simp only [eqFlat] at he
    cases hb : eqFlat l t t' with
    | none => simp [hb] at he
    | some b2 =>
      simp only [hb, Option.map_some, Option.some.injEq] at he
      refine ⟨_, b2, fun n => ?_, rfl, he.symm, hname, _, hty, rfl⟩
      rw [r1.bool_inv, r2.bool_inv]; exact run_equalIn_bool' w n f.type n1 n2 hty
  · rename_i hty
    cases hx
    cases c <;> (try (simp [eqFlat] at he; done))
    rename_i z; cases z <;> (try (simp [eqFlat] at he; done))
    cases c' <;> (try (simp [eqFlat] at he; done))
    rename_i z; cases z <;> (try (simp [eqFlat] at he; done))
    rename_i n1 n2
    simp only [eqFlat] at he
    cases hb : eqFlat l t t' with
    | none => simp [hb] at he
    | some b2 =>
      simp only [hb, Option.map_some, Option.some.injEq] at he
      refine ⟨n1 == n2, b2, fun n => ?_, rfl, he.symm, hname, _, hty, rfl⟩
      rw [r1.str_inv, r2.str_inv, run_equalIn_string w n f.type _ _ hty]; simp
  · cases hx
theorem eqFlat_cons {x : Fl} {l : List Fl} {s t : List C} {b : Bool} (h : eqFlat (x :: l) s t = some b) : ∃ c s' c' t', s = c :: s' ∧ t = c' :: t' := by
  cases s with
  | nil => cases x <;> simp [eqFlat] at h
  | cons c s =>
    cases t with
    | nil => cases x <;> cases c <;> (try (rename_i z; cases z)) <;> simp [eqFlat] at h
    | cons c' t => exact ⟨c, s, c', t, rfl, rfl⟩
theorem drop_cons {α : Type} {cs t : List α} {c : α} {i : Nat} (h : cs.drop i = c :: t) : cs[i]? = some c ∧ cs.drop (i + 1) = t ∧ i < cs.length := by
  have h1 : cs[i]? = some c := by have := congrArg (·[0]?) h; simpa [List.getElem?_drop] using this
  exact ⟨h1, by rw [← List.drop_drop, h]; rfl, (List.getElem?_eq_some_iff.1 h1).1⟩
theorem part_leaf {f : Field} {dd : TypeDesc} {xs : Array Value} {u : Value} (hdd : P.underlying f.type = some dd) (hagg : aggD dd = false) (hu : xs[f.offset]? = some u) : (part f.type xs f.offset).run P w = .ok u w := by
  have hia : (isAgg f.type).run P w = .ok false w := by
    unfold isAgg
    rw [Sem.run_bind, run_underlying hdd, Result.andThen_ok]
    cases dd <;> first | rfl | simp [aggD] at hagg
  simp [part, hia, hu]
theorem eqFlat_run {n : Nat} {γ : Key → Nat} {k : Key} {xs ys : Array Value} {cs ds : List C} {o : Nat} (hcs : ∀ (j : Nat) c u, cs[j]? = some c → xs[j]? = some u → RepC nm w L γ k (o + j) c u) (hds : ∀ (j : Nat) c u, ds[j]? = some c → ys[j]? = some u → RepC nm w L γ k (o + j) c u)
    (hlc : cs.length = xs.size) (hld : ds.length = ys.size) : ∀ (fs : List Field) (i : Nat) {fl : List Fl} {b : Bool}, flatFields P i fs = some fl → eqFlat fl (cs.drop i) (ds.drop i) = some b → (Op.eqFields (n + 1) xs ys fs).run P w = .ok b w
  | [], i, fl, b, hf, he => by
    simp only [flatFields, Option.some.injEq] at hf
    subst hf
    cases hc : cs.drop i with
    | cons c t => rw [hc] at he; simp [eqFlat] at he
    | nil =>
      cases hd : ds.drop i with
      | cons c t => rw [hc, hd] at he; simp [eqFlat] at he
      | nil =>
        rw [hc, hd] at he
        simp only [eqFlat, Option.some.injEq] at he
        subst he
        rfl
  | f :: fs, i, fl, b, hf, he => by
    simp only [flatFields] at hf
    split at hf
    · rename_i hoff
      split at hf
      · rename_i x l hx hl
        simp only [Option.some.injEq] at hf
        subst hf
        obtain ⟨c, t, c', t', hc, hd⟩ := eqFlat_cons he
        obtain ⟨hci, hct, hic⟩ := drop_cons hc
        obtain ⟨hdi, hdt, hid⟩ := drop_cons hd
        obtain ⟨u, hu⟩ : ∃ u, xs[i]? = some u := ⟨xs[i]'(by omega), by simp⟩
        obtain ⟨u', hu'⟩ : ∃ u, ys[i]? = some u := ⟨ys[i]'(by omega), by simp⟩
        rw [hc, hd] at he
        obtain ⟨b1, b2, g1, g2, g3, hname, dd, hdd, hagg⟩ := eqFlat_leaf hx he (hcs i c u hci hu) (hds i c' u' hdi hu')
        have ih := eqFlat_run (n := n) hcs hds hlc hld fs (i + 1) hl (by rw [hct, hdt]; exact g2)
        subst hoff
        simp only [Op.eqFields, hname, ne_eq, not_false_eq_true, if_true, Sem.run_bind, part_leaf hdd hagg hu, part_leaf hdd hagg hu', g1 n, Result.andThen_ok]
        cases b1
        · simp [g3]
        · simp [ih, g3]
      · cases hf
    · cases hf
theorem eqFlat_append : ∀ (l1 : List Fl) {l2 : List Fl} {s t : List C} {b : Bool}, eqFlat (l1 ++ l2) s t = some b →
    ∃ b1 b2, eqFlat l1 (s.take l1.length) (t.take l1.length) = some b1 ∧ eqFlat l2 (s.drop l1.length) (t.drop l1.length) = some b2 ∧ b = (b1 && b2) ∧ l1.length ≤ s.length ∧ l1.length ≤ t.length
  | [], l2, s, t, b, h => ⟨true, b, by simp [eqFlat], by simpa using h, by simp, by simp, by simp⟩
  | x :: l1, l2, s, t, b, h => by
    obtain ⟨c, s', c', t', rfl, rfl⟩ := eqFlat_cons (l := l1 ++ l2) h
    have key : ∀ {b0 b2' : Bool}, eqFlat (l1 ++ l2) s' t' = some b2' → b = (b0 && b2') → (∀ {r : List Fl} {u v : List C} {q : Bool}, eqFlat r u v = some q → eqFlat (x :: r) (c :: u) (c' :: v) = some (b0 && q)) →
        ∃ b1 b2, eqFlat (x :: l1) ((c :: s').take (l1.length + 1)) ((c' :: t').take (l1.length + 1)) = some b1 ∧ eqFlat l2 ((c :: s').drop (l1.length + 1)) ((c' :: t').drop (l1.length + 1)) = some b2 ∧ b = (b1 && b2) ∧ l1.length + 1 ≤ (c :: s').length ∧ l1.length + 1 ≤ (c' :: t').length := by
      intro b0 b2' h1 h2 h3
      obtain ⟨a1, a2, k1, k2, k3, k4, k5⟩ := eqFlat_append l1 h1
      exact ⟨b0 && a1, a2, h3 k1, k2, by rw [h2, k3, Bool.and_assoc], by simp; omega, by simp; omega⟩
    cases x <;> cases c <;> (try (simp [eqFlat] at h; done)) <;> (rename_i z; cases z) <;> (try (simp [eqFlat] at h; done)) <;> cases c' <;> (try (simp [eqFlat] at h; done)) <;> (rename_i z; cases z) <;> (try (simp [eqFlat] at h; done))
    · simp only [List.cons_append, eqFlat] at h
      split at h
      · rename_i hk
        obtain ⟨q, h1, h2⟩ := map_some4 h
        exact key h1 h2 (fun hq => by simp [eqFlat, hk, hq])
      · cases h
    · simp only [List.cons_append, eqFlat] at h
      obtain ⟨q, h1, h2⟩ := map_some4 h
      exact key h1 h2 (fun hq => by simp [eqFlat, hq])
    · simp only [List.cons_append, eqFlat] at h
      obtain ⟨q, h1, h2⟩ := map_some4 h
      exact key h1 h2 (fun hq => by simp [eqFlat, hq])
theorem eqFlat_run2 {n : Nat} {γ : Key → Nat} {k : Key} {xs ys : Array Value} {cs ds : List C} (hcs : ∀ (j : Nat) c u, cs[j]? = some c → xs[j]? = some u → RepC nm w L γ k j c u) (hds : ∀ (j : Nat) c u, ds[j]? = some c → ys[j]? = some u → RepC nm w L γ k j c u)
    (hlc : cs.length = xs.size) (hld : ds.length = ys.size) : ∀ (fs : List Field) (i : Nat) {fl : List Fl} {b : Bool}, flatFields2 P i fs = some fl → eqFlat fl (cs.drop i) (ds.drop i) = some b → (Op.eqFields (n + 2) xs ys fs).run P w = .ok b w
  | [], i, fl, b, hf, he => by
    simp only [flatFields2, Option.some.injEq] at hf
    subst hf
    cases hc : cs.drop i with
    | cons c t => rw [hc] at he; simp [eqFlat] at he
    | nil =>
      cases hd : ds.drop i with
      | cons c t => rw [hc, hd] at he; simp [eqFlat] at he
      | nil =>
        rw [hc, hd] at he
        simp only [eqFlat, Option.some.injEq] at he
        subst he
        rfl
  | f :: fs, i, fl, b, hf, he => by
    simp only [flatFields2] at hf
    split at hf
    · rename_i hoff
      split at hf
      · rename_i x hx
        obtain ⟨l, hl, rfl⟩ := map_some4 hf
        obtain ⟨c, t, c', t', hc, hd⟩ := eqFlat_cons he
        obtain ⟨hci, hct, hic⟩ := drop_cons hc
        obtain ⟨hdi, hdt, hid⟩ := drop_cons hd
        obtain ⟨u, hu⟩ : ∃ u, xs[i]? = some u := ⟨xs[i]'(by omega), by simp⟩
        obtain ⟨u', hu'⟩ : ∃ u, ys[i]? = some u := ⟨ys[i]'(by omega), by simp⟩
        rw [hc, hd] at he
        obtain ⟨b1, b2, g1, g2, g3, hname, dd, hdd, hagg⟩ := eqFlat_leaf hx he (hcs i c u hci hu) (hds i c' u' hdi hu')
        have ih := eqFlat_run2 (n := n) hcs hds hlc hld fs (i + 1) hl (by rw [hct, hdt]; exact g2)
        subst hoff
        simp only [Op.eqFields, hname, ne_eq, not_false_eq_true, if_true, Sem.run_bind, part_leaf hdd hagg hu, part_leaf hdd hagg hu', g1 (n + 1), Result.andThen_ok]
        cases b1
        · simp [g3]
        · simp [ih, g3]
      · split at hf
        · rename_i l1 hn1
          obtain ⟨l, hl, rfl⟩ := map_some4 hf
          unfold flatNest at hn1
          split at hn1
          · cases hn1
          · rename_i hname
            split at hn1
            · rename_i gs hgs
              split at hn1
              · rename_i l0 hl0
                split at hn1
                · rename_i hcond
                  cases hn1
                  obtain ⟨b1, b2, g1, g2, g3, g4, g5⟩ := eqFlat_append l1 he
                  simp only [List.length_drop] at g4 g5
                  have ih := eqFlat_run2 (n := n) hcs hds hlc hld fs (i + l1.length) hl (by simpa [List.drop_drop] using g2)
                  have hsz := hcond.2.1
                  have hne := hcond.2.2
                  have pt : ∀ {zs : Array Value}, (part f.type zs f.offset).run P w = .ok (.agg (zs.extract i (i + l1.length))) w := by
                    intro zs
                    have hia : (isAgg f.type).run P w = .ok true w := by
                      unfold isAgg
                      rw [Sem.run_bind, run_underlying hgs, Result.andThen_ok]; rfl
                    subst hoff
                    simp [part, hia, run_sizeOf' hsz]
                  have hfo : P.fieldsOf f.type = gs := by simp [Program.fieldsOf, hgs]
                  have sub : ∀ {zs : Array Value} {es : List C}, es.length = zs.size → i + l1.length ≤ es.length → (∀ (j : Nat) c u, es[j]? = some c → zs[j]? = some u → RepC nm w L γ k j c u) → ((es.drop i).take l1.length).length = (zs.extract i (i + l1.length)).size ∧
                      ∀ (j : Nat) c u, ((es.drop i).take l1.length)[j]? = some c → (zs.extract i (i + l1.length))[j]? = some u → RepC nm w L γ k (i + j) c u := by
                    intro zs es h1 h2 h3
                    refine ⟨by simp; omega, fun j c u hc hu => ?_⟩
                    rw [List.getElem?_take] at hc
                    split at hc
                    · rename_i hj
                      rw [List.getElem?_drop] at hc
                      rw [Array.getElem?_extract] at hu
                      split at hu
                      · exact h3 _ c u hc hu
                      · cases hu
                    · cases hc
                  obtain ⟨s1, s2⟩ := sub hlc (by omega) hcs
                  obtain ⟨s3, s4⟩ := sub hld (by omega) hds
                  have inner := eqFlat_run (P := P) (w := w) (n := n) (o := i) s2 s4 s1 s3 gs.toList 0 hl0 (by simpa using g1)
                  have heq : (Op.equalIn (n + 2) f.type (.agg (xs.extract i (i + l1.length))) (.agg (ys.extract i (i + l1.length)))).run P w = .ok b1 w := by
                    rw [run_equalIn_struct w (n + 1) f.type _ _ (by rw [hfo]; exact hgs) hcond.1, hfo]; exact inner
                  simp only [Op.eqFields, hname, ne_eq, not_false_eq_true, if_true, Sem.run_bind, pt, heq, Result.andThen_ok]
                  cases b1
                  · simp [g3]
                  · simp [ih, g3]
                · cases hn1
              · cases hn1
            · cases hn1
        · cases hf
    · cases hf
theorem flatStruct_inv {t : TypeId} {fl : List Fl} (h : flatStruct P t = some fl) : ∃ fs, P.underlying t = some (.struct fs) ∧ P.stoodInHeld t = false ∧ P.eqGuardType P.depth t = false ∧ flatFields2 P 0 fs.toList = some fl := by
  unfold flatStruct at h
  split at h
  · rename_i fs hu
    split at h
    · rename_i hc
      exact ⟨fs, hu, hc.1, hc.2, h⟩
    · cases h
  · cases h
theorem equal_of {t : TypeId} {u v : Value} {b : Bool} (h : ∀ n, (Op.equalIn (n + 1) t u v).run P w = .ok b w) : (Op.equal t u v).run P w = .ok b w := h 9999
theorem equal_bool {t : TypeId} (h : P.underlying t = some .bool) (x y : Bool) : (Op.equal t (.bool x) (.bool y)).run P w = .ok (x == y) w :=
  equal_of fun n => run_equalIn_bool' w n t x y h
def TCok (P : Program) (t : TypeId) : TC → Prop
  | .other => True
  | .bool => P.underlying t = some .bool
  | .struct fl => flatStruct P t = some fl
  | .ptr => ∃ e, P.underlying t = some (.pointer e)
  | .slice => ∃ e, P.underlying t = some (.slice e)
  | .func => ∃ x y z, P.underlying t = some (.func x y z)
  | .iface => ∃ m, P.underlying t = some (.interface m)
theorem classOf_ok {op : BinOp} {t : TypeId} {y : Operand} {tc : TC} (h : classOf P op t y = some tc) : TCok P t tc ∧ (tc = .iface → isConstO y = true) := by
  have go : (match P.underlying t with
    | some (.int _) => some TC.other
    | some .string => some .other
    | some .bool => some .bool
    | some (.struct _) => (flatStruct P t).map .struct
    | some (.pointer _) => some .ptr
    | some (.slice _) => some .slice
    | some (.func _ _ _) => some .func
    | some (.interface _) => if isConstO y then some .iface else none
    | _ => none) = some tc → TCok P t tc ∧ (tc = .iface → isConstO y = true) := by
    intro h
    split at h
    · cases h; exact ⟨trivial, by simp⟩
    · cases h; exact ⟨trivial, by simp⟩
    · rename_i hu; cases h; exact ⟨hu, by simp⟩
    · cases hf : flatStruct P t with
      | none => simp [hf] at h
      | some fl => simp only [hf, Option.map_some, Option.some.injEq] at h; subst h; exact ⟨hf, by simp⟩
    · rename_i e hu; cases h; exact ⟨⟨e, hu⟩, by simp⟩
    · rename_i e hu; cases h; exact ⟨⟨e, hu⟩, by simp⟩
    · rename_i x y z hu; cases h; exact ⟨⟨_, _, _, hu⟩, by simp⟩
    · rename_i m hu
      split at h
      · rename_i hc; cases h; exact ⟨⟨m, hu⟩, fun _ => hc⟩
      · cases h
    · cases h
  unfold classOf at h
  cases op <;> first
    | exact go h
    | (cases h; exact ⟨trivial, by simp⟩)
theorem isNil_run {γ : Key → Nat} {k k2 : Key} {j j2 : Nat} {t : TypeId} {tc : TC} {c0 c : C} {u v : Value} {b : Bool} (ht : TCok P t tc) (h0 : isNilC tc c0 = some true) (h : isNilC tc c = some b) (hc : RepC nm w L γ k j c u) (hc0 : RepC nm w L γ k2 j2 c0 v) :
    ((binOp .eql t u v).run P w = .ok (.bool b) w ∧ (binOp .neq t u v).run P w = .ok (.bool !b) w) ∧ (∀ p q, u = .agg p → v = .agg q → False) ∧ (tc ≠ .iface → v ≠ .nilIface) := by
  have two : (Op.equal t u v).run P w = .ok b w → (binOp .eql t u v = do pure (.bool (← Op.equal t u v))) → (binOp .neq t u v = do pure (.bool (!(← Op.equal t u v)))) →
      ((binOp .eql t u v).run P w = .ok (.bool b) w ∧ (binOp .neq t u v).run P w = .ok (.bool !b) w) := fun h1 h2 h3 => ⟨by rw [h2]; simp [h1], by rw [h3]; simp [h1]⟩
  cases tc with
  | other => simp [isNilC] at h0
  | bool => simp [isNilC] at h0
  | struct fl => simp [isNilC] at h0
  | ptr =>
    obtain ⟨e, ht⟩ := ht
    cases c0 <;> simp [isNilC] at h0
    cases hc0
    cases c <;> simp [isNilC] at h
    · subst h
      cases hc with
      | ptr hv =>
        obtain ⟨ad, rfl⟩ := hv
        exact ⟨two (equal_of fun n => by simp [Op.equalIn, run_underlying ht]) rfl rfl, (fun p q e _ => by cases e), (fun _ e => by cases e)⟩
    · subst h
      cases hc
      exact ⟨two (equal_of fun n => by simp [Op.equalIn, run_underlying ht]) rfl rfl, (fun p q e _ => by cases e), (fun _ e => by cases e)⟩
  | func =>
    obtain ⟨e1, e2, e3, ht⟩ := ht
    have i1 : ∀ (c : C) (b : Bool), isNilC .func c = some b → (c = .nilf ∧ b = true) ∨ (∃ f x y, c = .fn f x y ∧ f < fnsTag ∧ b = false) := by
      intro c b h
      cases c with
      | nilf => simp only [isNilC, Option.some.injEq] at h; exact .inl ⟨rfl, h.symm⟩
      | fn f x y =>
        simp only [isNilC] at h
        cases hf : isFn f with
        | true => simp only [hf, Option.some.injEq] at h; exact .inr ⟨_, _, _, rfl, isFn_lt hf, h.symm⟩
        | false => simp [hf] at h
      | _ => simp [isNilC] at h
    rcases i1 _ _ h0 with ⟨rfl, _⟩ | ⟨_, _, _, _, _, h⟩
    · cases hc0
      rcases i1 _ _ h with ⟨rfl, rfl⟩ | ⟨f, x, y, rfl, hft, rfl⟩
      · cases hc
        exact ⟨two (equal_of fun n => by simp [Op.equalIn, run_underlying ht]) rfl rfl, (fun p q e _ => by cases e), (fun _ e => by cases e)⟩
      · cases hc with
        | fn => exact ⟨two (equal_of fun n => by simp [Op.equalIn, run_underlying ht]) rfl rfl, (fun p q e _ => by cases e), (fun _ e => by cases e)⟩
        | fns val hf => exfalso; rcases hf with ⟨h, _⟩ | ⟨h, _⟩ <;> omega
    · cases h
  | iface =>
    obtain ⟨e1, ht⟩ := ht
    cases c0 <;> simp [isNilC] at h0
    cases hc0
    cases c <;> simp [isNilC] at h
    · subst h
      cases hc
      exact ⟨two (equal_of fun n => by simp [Op.equalIn, run_underlying ht]) rfl rfl, (fun p q e _ => by cases e), (fun h => absurd rfl h)⟩
    · subst h
      cases hc
      exact ⟨two (equal_of fun n => by simp [Op.equalIn, run_underlying ht]) rfl rfl, (fun p q e _ => by cases e), (fun h => absurd rfl h)⟩
  | slice =>
    obtain ⟨e1, ht⟩ := ht
    have inv : ∀ {c : C} {b : Bool}, isNilC .slice c = some b → (∃ sz rows, c = .d (.sl (.im true) sz rows) ∧ b = true) ∨ (∃ sz rows, c = .d (.sl (.im false) sz rows) ∧ b = false) ∨ (∃ pl g sz off len, c = .view pl g sz off len ∧ b = false) := by
      intro c b h
      cases c with
      | d x =>
        cases x with
        | sl t sz rows =>
          cases t with
          | im b' =>
            simp only [isNilC, Option.some.injEq] at h
            subst h
            cases b' with
            | true => exact .inl ⟨sz, rows, rfl, rfl⟩
            | false => exact .inr (.inl ⟨sz, rows, rfl, rfl⟩)
          | own => simp [isNilC] at h
        | _ => simp [isNilC] at h
      | view => simp only [isNilC, Option.some.injEq] at h; exact .inr (.inr ⟨_, _, _, _, _, rfl, h.symm⟩)
      | _ => simp [isNilC] at h
    rcases inv h0 with ⟨sz0, rows0, rfl, _⟩ | ⟨_, _, _, h1⟩ | ⟨_, _, _, _, _, _, h1⟩
    · cases hc0 with
      | d hd0 =>
        cases hd0 with
        | plain hd0 =>
          cases hd0
          rcases inv h with ⟨sz1, rows1, rfl, rfl⟩ | ⟨sz1, rows1, rfl, rfl⟩ | ⟨pl, g, sz1, off, len, rfl, rfl⟩
          · cases hc with
            | d hd =>
              cases hd with
              | plain hd =>
                cases hd
                exact ⟨two (equal_of fun n => by simp [Op.equalIn, run_underlying ht]) rfl rfl, (fun p q e _ => by cases e), (fun _ e => by cases e)⟩
          · cases hc with
            | d hd =>
              cases hd with
              | plain hd =>
                cases hd with
                | plE => exact ⟨two (equal_of fun n => by simp [Op.equalIn, run_underlying ht]) rfl rfl, (fun p q e _ => by cases e), (fun _ e => by cases e)⟩
                | pl => exact ⟨two (equal_of fun n => by simp [Op.equalIn, run_underlying ht]) rfl rfl, (fun p q e _ => by cases e), (fun _ e => by cases e)⟩
          · cases hc with
            | view hv =>
              obtain ⟨b, c, rfl, _, hb⟩ := hv
              obtain ⟨ad, rfl⟩ := Option.isSome_iff_exists.1 hb
              exact ⟨two (equal_of fun n => by simp [Op.equalIn, run_underlying ht]) rfl rfl, (fun p q e _ => by cases e), (fun _ e => by cases e)⟩
    · cases h1
    · cases h1
theorem ev_bin (R : Rel nm N S a w L) (hd : ∀ d, o.dst = some d → d < N) {x y : Operand} {X Y : Abs.X} {op : BinOp} {t yt : TypeId} {tc : TC} (hx : OpRel nm X x) (hy : OpRel nm Y y) (ho : o.op = .binOp op t x y yt) (htc : classOf P op t y = some tc)
    (hr : (evOp Cl d (.bin tc op X Y)).run S = some r) : OpsTo P a w o (Aft nm N S w L a o.dst r.1 r.2) := by
  simp only [evOp] at hr
  obtain ⟨v1, h1, hr'⟩ := Q.run_bind_some hr
  clear hr
  obtain ⟨v2, h3, hr⟩ := Q.run_bind_some hr'
  clear hr'
  obtain ⟨z, hz, h2⟩ := Q.run_ofO_some hr
  clear hr
  obtain rfl := Q.run_pure_some h2
  clear h2
  have r1 := rd_val R hx h1
  have r2 := rd_val R hy h3
  obtain ⟨htk, hif⟩ := classOf_ok htc
  clear htc
  have htc := htk
  clear htk
  have done : ∀ {v : Value}, (eqGuard op t x y (a.eval x) (a.eval y)).run P w = .ok () w → (binOp op t (a.eval x) (a.eval y)).run P w = .ok v w → RepP w L z v → OpsTo P a w o (Aft nm N S w L a o.dst (.one (.d z)) []) :=
    fun hg hb hp => opVal R hd (execOp_binOp ho hg hb) (.one (.d (.plain hp)))
  unfold binV at hz
  split at hz
  · -- numbers
    rename_i k n k' n'
    have e1 := r1.one_inv.int_inv
    have e2 := r2.one_inv.int_inv
    have hg : (eqGuard op t x y (a.eval x) (a.eval y)).run P w = .ok () w := eqGuard_plain (by rw [e1]; simp) (by rw [e1]; simp)
    split at hz
    · obtain ⟨v, g1, g2⟩ := shiftOp_run (P := P) (w := w) (L := L) (.inl rfl) (k' := k') (t := t) hz
      exact done hg (by rw [e1, e2]; exact g1) g2
    · obtain ⟨v, g1, g2⟩ := shiftOp_run (P := P) (w := w) (L := L) (.inr rfl) (k' := k') (t := t) hz
      exact done hg (by rw [e1, e2]; exact g1) g2
    · rename_i hn1 hn2
      split at hz
      · rename_i hk
        subst hk
        obtain ⟨v, g1, g2⟩ := intOp_run (P := P) (w := w) (L := L) (t := t) hz (fun e => hn1 e) (fun e => hn2 e)
        exact done hg (by rw [e1, e2]; exact g1) g2
      · cases hz
  · -- strings
    have e1 := r1.one_inv.str_inv
    have e2 := r2.one_inv.str_inv
    obtain ⟨v, g1, g2⟩ := strOp_run (P := P) (w := w) (L := L) (t := t) hz
    exact done (eqGuard_plain (by rw [e1]; simp) (by rw [e1]; simp)) (by rw [e1, e2]; exact g1) g2
  · -- truth values
    have e1 := r1.one_inv.bool_inv
    have e2 := r2.one_inv.bool_inv
    have hg : (eqGuard op t x y (a.eval x) (a.eval y)).run P w = .ok () w := eqGuard_plain (by rw [e1]; simp) (by rw [e1]; simp)
    split at hz
    · cases hz
      exact done hg (v := .bool _) (by rw [e1, e2]; simp [binOp, equal_bool htc]) .bool
    · cases hz
      exact done hg (v := .bool _) (by rw [e1, e2]; simp [binOp, equal_bool htc]) .bool
    · cases hz
  · -- structs
    rename_i cs ds
    obtain ⟨xs, e1, hl1, hc1⟩ := r1.agg_inv
    obtain ⟨ys, e2, hl2, hc2⟩ := r2.agg_inv
    split at hz
    · rename_i fl
      obtain ⟨fs, hu, hs, hgt, hf⟩ := flatStruct_inv htc
      cases hb : eqFlat fl cs ds with
      | none => simp [hb] at hz
      | some b =>
        simp only [hb, Option.map_some, Option.some.injEq] at hz
        subst hz
        have hfo : P.fieldsOf t = fs := by simp [Program.fieldsOf, hu]
        have h0 := eqFlat_run2 (P := P) (w := w) (n := 9997) hc1 hc2 hl1 hl2 fs.toList 0 hf (by simpa using hb)
        have he : (Op.equalIn 10000 t (.agg xs) (.agg ys)).run P w = .ok b w := by
          rw [run_equalIn_struct w 9999 t xs ys (by rw [hfo]; exact hu) hs, hfo]; exact h0
        refine done (v := .bool b) (by rw [e1, e2]; exact run_eqGuard_agg w _ t x y xs ys hgt) ?_ .bool
        rw [e1, e2, run_eql_struct, he]; rfl
    · rename_i fl
      obtain ⟨fs, hu, hs, hgt, hf⟩ := flatStruct_inv htc
      cases hb : eqFlat fl cs ds with
      | none => simp [hb] at hz
      | some b =>
        simp only [hb, Option.map_some, Option.some.injEq] at hz
        subst hz
        have hfo : P.fieldsOf t = fs := by simp [Program.fieldsOf, hu]
        have h0 := eqFlat_run2 (P := P) (w := w) (n := 9997) hc1 hc2 hl1 hl2 fs.toList 0 hf (by simpa using hb)
        have he : (Op.equalIn 10000 t (.agg xs) (.agg ys)).run P w = .ok b w := by
          rw [run_equalIn_struct w 9999 t xs ys (by rw [hfo]; exact hu) hs, hfo]; exact h0
        refine done (v := .bool !b) (by rw [e1, e2]; exact run_eqGuard_agg w _ t x y xs ys hgt) ?_ .bool
        rw [e1, e2, run_neq_struct, he]; rfl
    · cases hz
  · -- nil
    rename_i c c0 _ _ _
    split at hz
    · rename_i hnil
      split at hz
      · cases hb : isNilC tc c with
        | none => simp [hb] at hz
        | some b =>
          simp only [hb, Option.map_some, Option.some.injEq] at hz
          subst hz
          obtain ⟨g1, g2, g3⟩ := isNil_run (P := P) htc hnil hb r1.one_inv r2.one_inv
          exact done (v := .bool b) (eqGuard_plain g2 (fun _ hv => .inr (hif (Classical.byContradiction fun hne => g3 hne hv)))) g1.1 .bool
      · cases hb : isNilC tc c with
        | none => simp [hb] at hz
        | some b =>
          simp only [hb, Option.map_some, Option.some.injEq] at hz
          subst hz
          obtain ⟨g1, g2, g3⟩ := isNil_run (P := P) htc hnil hb r1.one_inv r2.one_inv
          exact done (v := .bool !b) (eqGuard_plain g2 (fun _ hv => .inr (hif (Classical.byContradiction fun hne => g3 hne hv)))) g1.2 .bool
      · cases hz
    · cases hz
  · cases hz
end
end
section
section
variable {nm : FuncId → Option Nat} {N : Nat} {S : St} {a : Act} {w : World} {L : LabF} {P : Program} {o : Oper} {Cl : Oracle} {d : Nat} {r : V × List Wr}
theorem ev_un (R : Rel nm N S a w L) (hd : ∀ d, o.dst = some d → d < N) {x : Operand} {X : Abs.X} {op : UnOp} {t : TypeId} (hx : OpRel nm X x) (ho : o.op = .unOp op t x)
    (hr : (evOp Cl d (.un op X)).run S = some r) : OpsTo P a w o (Aft nm N S w L a o.dst r.1 r.2) := by
  simp only [evOp] at hr
  obtain ⟨v1, h1, hr'⟩ := Q.run_bind_some hr
  clear hr
  obtain ⟨z, hz, h2⟩ := Q.run_ofO_some hr'
  clear hr'
  obtain rfl := Q.run_pure_some h2
  clear h2
  have r1 := rd_val R hx h1
  have ex : ∀ {v : Value}, (Op.unary op (a.eval x)).run P w = .ok v w → RepP w L z v → OpsTo P a w o (Aft nm N S w L a o.dst (.one (.d z)) []) :=
    fun hb hp => opVal R hd (by simp [execOp, ho, hb]) (.one (.d (.plain hp)))
  unfold unV at hz
  split at hz
  · cases hz
    refine ex ?_ .bool
    rw [r1.one_inv.bool_inv]; rfl
  · cases hz
    refine ex ?_ .int
    rw [r1.one_inv.int_inv]; rfl
  · cases hz
    refine ex ?_ .int
    rw [r1.one_inv.int_inv]; rfl
  · cases hz
theorem ev_convInt (R : Rel nm N S a w L) (hd : ∀ d, o.dst = some d → d < N) {x : Operand} {X : Abs.X} {k : IntKind} {t u : TypeId} {ds : TypeDesc} (hx : OpRel nm X x) (ho : o.op = .convert t u x) (ht : P.underlying t = some ds) (hu : P.underlying u = some (.int k))
    (hr : (evOp Cl d (.conv (.int k) X)).run S = some r) : OpsTo P a w o (Aft nm N S w L a o.dst r.1 r.2) := by
  simp only [evOp] at hr
  obtain ⟨v1, h1, h2⟩ := Q.run_bind_some hr
  clear hr
  have r1 := rd_val R hx h1
  cases v1 with
  | one c =>
    cases c with
    | d z =>
      cases z with
      | int k' n =>
        obtain rfl := Q.run_pure_some h2
        refine opVal R hd (v := .int k (k.wrap n)) ?_ (.one (.d (.plain .int)))
        have : (convert t u (a.eval x)).run P w = .ok (.int k (k.wrap n)) w := by
          rw [r1.one_inv.int_inv]
          simp [convert, run_underlying ht, run_underlying hu, Conv.intToInt]
        simp [execOp, ho, this]
      | _ => cases h2
    | _ => cases h2
  | _ => cases h2
theorem ev_convSame (R : Rel nm N S a w L) (hd : ∀ d, o.dst = some d → d < N) {x : Operand} {X : Abs.X} {t u : TypeId} {ds : TypeDesc} (hx : OpRel nm X x) (ho : o.op = .convert t u x) (ht : P.underlying t = some ds) (hu : P.underlying u = some .string)
    (hr : (evOp Cl d (.conv .same X)).run S = some r) : OpsTo P a w o (Aft nm N S w L a o.dst r.1 r.2) := by
  simp only [evOp] at hr
  obtain ⟨v1, h1, h2⟩ := Q.run_bind_some hr
  clear hr
  have r1 := rd_val R hx h1
  cases v1 with
  | one c =>
    cases c with
    | d z =>
      cases z with
      | str s =>
        obtain rfl := Q.run_pure_some h2
        refine opVal R hd (v := .string ⟨s.toArray⟩) ?_ (.one (.d (.plain .str)))
        have : (convert t u (a.eval x)).run P w = .ok (.string ⟨s.toArray⟩) w := by
          rw [r1.one_inv.str_inv]
          cases ds <;> simp [convert, run_underlying ht, run_underlying hu]
        simp [execOp, ho, this]
      | _ => cases h2
    | _ => cases h2
  | _ => cases h2
theorem shown_rep (R : Rel nm N S a w L) {v : V} {u : Value} (hv : RepV nm w L S.γ (.h 0) v u) (hcl : v.own = false) {rows : List (List D)} (h : (shown v).run S = some rows) :
    ∃ (b : Option Addr) (cap : Nat), u = .slice b rows.length cap ∧ (rows = [] ∨ ∃ B o cur e fz sz, b = some ⟨B, o, none⟩ ∧ 0 < sz ∧ w.heap[B]? = some (.cells cur e fz) ∧ (∀ r ∈ rows, r.length = sz) ∧
      (∀ i c k n, cellOf rows i c = some (.int k n) → cur[o + i * sz + c]? = some (.int k n))) := by
  unfold shown at h
  split at h
  · cases h
  · rename_i t sz rows' hno
    simp only [Q.run_pure, Option.some.injEq] at h
    subst h
    cases hv.one_inv with
    | d hd =>
      cases hd with
      | plain hp =>
        cases hp with
        | nil => exact ⟨none, 0, rfl, .inl rfl⟩
        | plE => exact ⟨_, _, rfl, .inl rfl⟩
        | @pl sz rows B o cap cur e fz val hne hsz hcapp hL hB hlen hvv hrr =>
          refine ⟨_, _, rfl, .inr ⟨B, o, cur, e, fz, sz, rfl, hsz, hB, hlen, fun i c k n hx => ?_⟩⟩
          have h1 := hvv i c _ hx
          have h2 := hrr i c _ hx
          generalize val i c = u at h1 h2
          cases h2
          exact h1
      | ownE => simp at hno
      | own => simp at hno
  · rename_i pl g sz off len
    obtain ⟨res, h3, h4⟩ := Q.run_bind_some h
    clear h
    obtain ⟨hg, h5⟩ := Q.run_guard_some h4
    clear h4
    simp only [decide_eq_true_eq] at hg
    have hg' : off + len ≤ res.2.2.length := hg
    obtain rfl := Q.run_pure_some h5
    have hlen : (plainRs ((res.2.2.drop off).take len)).length = len := by rw [plainRs_length, List.length_take, List.length_drop]; omega
    cases hv.one_inv with
    | view hv0 hh hgl hV =>
      obtain ⟨hgg, u0, hu0⟩ := ownAt0 R hh h3
      rcases hV hgg with ⟨h0, a0, rfl⟩ | ⟨B, o, cap, cur, e, fz, rfl, hsz, hL, hB, hfz, hlc, hroom, _⟩
      · refine ⟨a0, 0, by rw [hlen, h0], .inl ?_⟩
        rw [h0]; simp [plainRs]
      · refine ⟨_, _, by rw [hlen], ?_⟩
        rcases hu0.own_inv with ⟨hnil, _⟩ | ⟨B', o', cap', cur', e', fz', val, _, _, hL', hB', _, hlens, hcap', hroom', hval, hr, hu8⟩
        · left
          rw [hnil]; simp [plainRs]
        · right
          obtain rfl := R.rowInj B' B pl o' o hL' hL
          obtain rfl : o' = o := by rw [hL'] at hL; simpa using hL
          obtain ⟨rfl, rfl, rfl⟩ : cur' = cur ∧ e' = e ∧ fz' = fz := by rw [hB'] at hB; simpa using hB
          refine ⟨B', _, _, _, _, sz, rfl, hsz, hB', ?_, ?_⟩
          · intro r1 hr1
            rw [plainRs_eq] at hr1
            obtain ⟨r2, h1, rfl⟩ := List.mem_map.1 hr1
            simpa using hlens r2 (List.mem_of_mem_drop (List.mem_of_mem_take h1))
          · intro i c k n hx
            rw [cellOf_plain] at hx
            cases hy : cellOf ((res.2.2.drop off).take len) i c with
            | none => simp [hy] at hx
            | some y =>
              simp only [hy, Option.map_some, Option.some.injEq] at hx
              obtain ⟨rr, k1, k2⟩ := cellOf_some.1 hy
              have hil : i < len := by
                have := (List.getElem?_eq_some_iff.1 k1).1
                rw [List.length_take] at this; omega
              rw [List.getElem?_take_of_lt hil, List.getElem?_drop] at k1
              have hc : cellOf res.2.2 (off + i) c = some y := cellOf_some.2 ⟨rr, k1, k2⟩
              have h1 := hval _ _ _ hc
              have h2 := hr _ _ _ hc
              have hy' : y = .int k n := by
                cases y with
                | sl t _ _ => cases t <;> simp [plainD] at hx
                | _ => simp [plainD] at hx ⊢ <;> exact hx
              subst hy'
              generalize val (off + i) c = u at h1 h2
              cases h2 with
              | plain h2 =>
                cases h2
                rw [Nat.add_mul] at h1
                rw [show o' + off * sz + i * sz + c = o' + (off * sz + i * sz) + c by omega]
                exact h1
  · cases h
theorem toBytes_inv : ∀ (rows : List (List D)) {s : List UInt8}, toBytes rows = some s → rows.length = s.length ∧ ∀ i, i < rows.length → ∃ n, cellOf rows i 0 = some (.int .u8 n) ∧ rows[i]? = some [.int .u8 n] ∧ s[i]? = some (UInt8.ofNat n.toNat)
  | [], s, h => by simp only [toBytes, Option.some.injEq] at h; subst h; exact ⟨rfl, fun i hi => by simp at hi⟩
  | r :: rows, s, h => by
    unfold toBytes at h
    split at h
    · rename_i heq; cases heq
    · rename_i n t heq
      simp only [List.cons.injEq] at heq
      obtain ⟨rfl, rfl⟩ := heq
      cases ht : toBytes rows with
      | none => simp [ht] at h
      | some t' =>
        simp only [ht, Option.map_some, Option.some.injEq] at h
        subst h
        obtain ⟨h1, h2⟩ := toBytes_inv rows ht
        refine ⟨by simp [h1], fun i hi => ?_⟩
        cases i with
        | zero => exact ⟨n, rfl, rfl, rfl⟩
        | succ i =>
          obtain ⟨m, g1, g2, g3⟩ := h2 i (by simpa using hi)
          exact ⟨m, by simpa [cellOf] using g1, by simpa using g2, by simpa using g3⟩
    · cases h
theorem bytes_core {w : World} {rows : List (List D)} {s : List UInt8} (hs : toBytes rows = some s) {b : Option Addr} {cap : Nat}
    (hcase : rows = [] ∨ ∃ B o cur e fz sz, b = some ⟨B, o, none⟩ ∧ 0 < sz ∧ w.heap[B]? = some (.cells cur e fz) ∧ (∀ r ∈ rows, r.length = sz) ∧
      (∀ i c k n, cellOf rows i c = some (.int k n) → cur[o + i * sz + c]? = some (.int k n))) :
    (Conv.bytesToString (.slice b rows.length cap)).run P w = .ok (.string ⟨s.toArray⟩) w := by
  obtain ⟨hl, hb⟩ := toBytes_inv rows hs
  rcases hcase with rfl | ⟨B, o', cur, e', fz, sz, rfl, hsz, hB, hlens, hcells⟩
  · have : s = [] := List.length_eq_zero_iff.1 (by rw [← hl]; rfl)
    subst this
    cases b with
    | none => simp [Conv.bytesToString]; rfl
    | some ad => simp [Conv.bytesToString, loadCells, loadCellsFrom]; rfl
  · let ns : List Int := rows.map fun r => match r with | [.int _ n] => n | _ => 0
    have hnsl : ns.length = rows.length := by simp [ns]
    have hcell : ∀ i n, ns[i]? = some n → s[i]? = some (UInt8.ofNat n.toNat) ∧ w.cell? ⟨B, o' + i, none⟩ = some (.int .u8 n) := by
      intro i n hin
      have hi : i < rows.length := by rw [← hnsl]; exact (List.getElem?_eq_some_iff.1 hin).1
      obtain ⟨n', g1, g2, g3⟩ := hb i hi
      have hnn : n = n' := by
        simp only [ns, List.getElem?_map, g2, Option.map_some, Option.some.injEq] at hin
        exact hin.symm
      subst hnn
      have hs1 : sz = 1 := by have := hlens _ (List.mem_of_getElem? g2); simpa using this.symm
      subst hs1
      refine ⟨g3, ?_⟩
      rw [cell?_of hB]
      have := hcells i 0 _ _ g1
      rwa [Nat.mul_one, Nat.add_zero] at this
    have hload : (loadCells ⟨B, o', none⟩ rows.length).run P w = .ok (ns.map (Value.int .u8)).toArray w := by
      have := run_loadCells_list (P := P) w ⟨B, o', none⟩ (ns.map (Value.int .u8)) (fun j v hj => by
        simp only [List.getElem?_map] at hj
        cases hn : ns[j]? with
        | none => simp [hn] at hj
        | some n =>
          simp only [hn, Option.map_some, Option.some.injEq] at hj
          subst hj
          rw [add_off]; exact (hcell j n hn).2)
      rwa [List.length_map, hnsl] at this
    rw [run_bytesToString w _ _ _ ns hload, foldl_push_bytes]
    congr 2
    have hs' : ns.map (fun n => UInt8.ofNat n.toNat) = s := by
      apply List.ext_getElem?
      intro i
      rw [List.getElem?_map]
      cases hn : ns[i]? with
      | none =>
        have : rows.length ≤ i := by rw [← hnsl]; exact List.getElem?_eq_none_iff.1 hn
        rw [Option.map_none, List.getElem?_eq_none (by omega)]
      | some n => rw [Option.map_some, (hcell i n hn).1]
    rw [hs']
    apply ByteArray.ext
    show ByteArray.empty.data ++ s.toArray = s.toArray
    rw [show ByteArray.empty.data = #[] from rfl, Array.empty_append]
theorem shownA_rep (R : Rel nm N S a w L) {x : Operand} {X : Abs.X} (hx : OpRel nm X x) {rows : List (List D)} (h : (shownA X).run S = some rows) :
    ∃ (b : Option Addr) (cap : Nat), a.eval x = .slice b rows.length cap ∧ (rows = [] ∨ ∃ B o cur e fz sz, b = some ⟨B, o, none⟩ ∧ 0 < sz ∧ w.heap[B]? = some (.cells cur e fz) ∧ (∀ r ∈ rows, r.length = sz) ∧
      (∀ i c k n, cellOf rows i c = some (.int k n) → cur[o + i * sz + c]? = some (.int k n))) := by
  cases hx with
  | @s i =>
    unfold shownA at h
    have h1 := Q.run_at_some h
    clear h
    have hv := R.slot i
    cases hE : S.E (.s i) with
    | one c =>
      cases c with
      | appd pl g aa sz rows' =>
        have hE2 : (S.get (.s i)).v = .one (.appd pl g aa sz rows') := hE
        rw [hE2] at h1
        have h2 := Q.run_at_some h1
        have h3 := Q.run_at_some h2
        obtain ⟨hg, h4⟩ := Q.run_guard_some h3
        obtain rfl := Q.run_pure_some h4
        simp only [Bool.and_eq_true, beq_iff_eq] at hg
        rw [hE] at hv
        cases hv.one_inv with
        | appd hv0 hh hgl hal hV =>
          rcases hV hg.1.symm hg.2.symm with ⟨h0, ad, h5⟩ | ⟨B, o, cap, cur, e, fz, n0, val, h5, hsz, hL, hB, hfz, hlen, hcap, hroom, hvv, hrr, hu8⟩
          · refine ⟨some ad, 0, ?_, .inl h0⟩
            rw [h0]; exact h5
          · refine ⟨_, cap, h5, .inr ⟨B, o, cur, e, fz, sz, rfl, hsz, hB, hlen, fun i c k n hx => ?_⟩⟩
            have g1 := hvv i c _ hx
            have g2 := hrr i c _ hx
            generalize val i c = u at g1 g2
            cases g2 with
            | plain g2 => cases g2; exact g1
      | _ => have hE2 : (S.get (.s i)).v = .one _ := hE
             rw [hE2] at h1; cases h1
    | _ => have hE2 : (S.get (.s i)).v = _ := hE
           rw [hE2] at h1; cases h1
  | _ => cases h
theorem ev_convBytes (R : Rel nm N S a w L) (hd : ∀ d, o.dst = some d → d < N) {x : Operand} {X : Abs.X} {t u e : TypeId} (hx : OpRel nm X x) (hok : X.okC = true) (ho : o.op = .convert t u x) (ht : P.underlying t = some (.slice e)) (hu : P.underlying u = some .string) (he : P.underlying e = some (.int .u8))
    (hr : (evOp Cl d (.conv .bytesStr X)).run S = some r) : OpsTo P a w o (Aft nm N S w L a o.dst r.1 r.2) := by
  have core : ∀ (rows : List (List D)) (s : List UInt8), toBytes rows = some s → (∃ (b : Option Addr) (cap : Nat), a.eval x = .slice b rows.length cap ∧ (rows = [] ∨ ∃ B o cur e fz sz, b = some ⟨B, o, none⟩ ∧ 0 < sz ∧ w.heap[B]? = some (.cells cur e fz) ∧ (∀ r ∈ rows, r.length = sz) ∧
      (∀ i c k n, cellOf rows i c = some (.int k n) → cur[o + i * sz + c]? = some (.int k n)))) → r = (.one (.d (.str s)), []) → OpsTo P a w o (Aft nm N S w L a o.dst r.1 r.2) := by
    rintro rows s hs ⟨b, cap, hax, hcase⟩ rfl
    refine opVal R hd (v := .string ⟨s.toArray⟩) ?_ (.one (.d (.plain .str)))
    have : (convert t u (a.eval x)).run P w = .ok (.string ⟨s.toArray⟩) w := by
      rw [hax]
      have hconv : (convert t u (.slice b rows.length cap)).run P w = (Conv.bytesToString (.slice b rows.length cap)).run P w := by
        cases b <;> simp [convert, run_underlying ht, run_underlying hu, run_underlying he]
      rw [hconv]
      exact bytes_core hs hcase
    simp [execOp, ho, this]
  simp only [evOp] at hr
  obtain ⟨v1, h1, h2⟩ := Q.run_bind_some hr
  clear hr
  have r1 := rd_val R hx h1
  have hcl := rd_own hok h1
  by_cases hde : v1 = .one .dead
  · subst hde
    obtain ⟨rows, h3, h4⟩ := Q.run_bind_some h2
    obtain ⟨s, hs, h5⟩ := Q.run_ofO_some h4
    exact core rows s hs (shownA_rep R hx h3) (Q.run_pure_some h5)
  · obtain ⟨rows, h3, h4⟩ := Q.run_bind_some (x := shown v1) (f := fun rows => (Q.ofO (toBytes rows) >>= fun s => pure (.one (.d (.str s)), []))) (r := r) (by
      cases v1 with
      | one c => cases c <;> (try exact h2) <;> (try exact absurd rfl hde) <;> (rename_i z; cases z <;> exact h2)
      | _ => exact h2)
    obtain ⟨s, hs, h5⟩ := Q.run_ofO_some h4
    exact core rows s hs (shown_rep R r1 hcl h3) (Q.run_pure_some h5)
theorem optNat_run (R : Rel nm N S a w L) {lo : Option Operand} {X : Option Abs.X} (h : ∀ x, lo = some x → ∃ y, X = some y ∧ OpRel nm y x) (h0 : lo = none → X = none) {dflt n : Nat} (hr : (optNat X dflt).run S = some n) :
    (lo = none ∧ n = dflt) ∨ ∃ x k, lo = some x ∧ a.eval x = .int k n := by
  cases lo with
  | none =>
    rw [h0 rfl] at hr
    simp only [optNat, Q.run_pure, Option.some.injEq] at hr
    exact .inl ⟨rfl, hr.symm⟩
  | some x =>
    obtain ⟨y, rfl, hy⟩ := h x rfl
    simp only [optNat] at hr
    obtain ⟨v, h1, h2⟩ := Q.run_bind_some hr
    rw [Q.run_ofO] at h2
    obtain ⟨k, hk⟩ := asNat_inv (rd_val R hy h1) h2
    exact .inr ⟨x, k, rfl, hk⟩
theorem sliceBounds_run {b : Bool} {len cap l h : Nat} {lo hi : Option Value} (hl : (lo = none ∧ l = 0) ∨ ∃ k, lo = some (.int k l)) (hh : (hi = none ∧ h = len) ∨ ∃ k, hi = some (.int k h)) (h1 : l ≤ h) (h2 : h ≤ len) (h3 : len ≤ cap) :
    (Instr.sliceBounds b len cap lo hi none).run P w = .ok (l, h, cap) w := by
  have e1 : (h : Int) ≤ (cap : Int) := by omega
  have e2 : (l : Int) ≤ (h : Int) := by omega
  rcases hl with ⟨rfl, rfl⟩ | ⟨k, rfl⟩ <;> rcases hh with ⟨rfl, rfl⟩ | ⟨k', rfl⟩ <;>
    simp [Instr.sliceBounds, Instr.sliceBound, asIntOf, e1, e2, Nat.le_trans h2 h3, h1]
theorem ev_sliceStr (R : Rel nm N S a w L) (hd : ∀ d, o.dst = some d → d < N) {x : Operand} {X : Abs.X} {t : TypeId} {lo hi : Option Operand} {LO HI : Option Abs.X} (hx : OpRel nm X x) (ho : o.op = .slice t x lo hi none) (ht : P.underlying t = some .string)
    (hlo : ∀ x, lo = some x → ∃ y, LO = some y ∧ OpRel nm y x) (hlo0 : lo = none → LO = none) (hhi : ∀ x, hi = some x → ∃ y, HI = some y ∧ OpRel nm y x) (hhi0 : hi = none → HI = none)
    (hr : (evOp Cl d (.sliceS X LO HI)).run S = some r) : OpsTo P a w o (Aft nm N S w L a o.dst r.1 r.2) := by
  simp only [evOp] at hr
  obtain ⟨v1, h1, h2⟩ := Q.run_bind_some hr
  clear hr
  have r1 := rd_val R hx h1
  split at h2
  · rename_i s
    obtain ⟨l, h3, h4⟩ := Q.run_bind_some h2
    clear h2
    obtain ⟨h, h5, h6⟩ := Q.run_bind_some h4
    clear h4
    obtain ⟨hg, h7⟩ := Q.run_guard_some h6
    clear h6
    simp only [Bool.and_eq_true, decide_eq_true_eq] at hg
    obtain rfl := Q.run_pure_some h7
    have e1 := r1.one_inv.str_inv
    refine opVal R hd (v := .string ⟨((s.drop l).take (h - l)).toArray⟩) ?_ (.one (.d (.plain .str)))
    have hb := sliceBounds_run (P := P) (w := w) (b := false) (len := s.length) (cap := s.length) (l := l) (h := h) (lo := lo.map a.eval) (hi := hi.map a.eval)
      ((optNat_run R hlo hlo0 h3).imp (fun h => ⟨by rw [h.1]; rfl, h.2⟩) (fun ⟨x, k, h1, h2⟩ => ⟨k, by rw [h1]; simp [h2]⟩))
      ((optNat_run R hhi hhi0 h5).imp (fun h => ⟨by rw [h.1]; rfl, h.2⟩) (fun ⟨x, k, h1, h2⟩ => ⟨k, by rw [h1]; simp [h2]⟩)) hg.1 hg.2 (Nat.le_refl _)
    have hex : (⟨s.toArray⟩ : ByteArray).extract l h = ⟨((s.drop l).take (h - l)).toArray⟩ := by
      apply ByteArray.ext
      rw [ByteArray.data_extract]
      apply Array.ext'
      simp [List.drop_take]
    have : (Instr.sliceAt t (a.eval x) (lo.map a.eval) (hi.map a.eval) none).run P w = .ok (.string ⟨((s.drop l).take (h - l)).toArray⟩) w := by
      rw [e1]
      simp [Instr.sliceAt, Instr.slice, run_underlying ht, bytes_size, hb, hex]
    simp [execOp, ho, this]
  · cases h2
theorem ev_slice (R : Rel nm N S a w L) (hd : ∀ d, o.dst = some d → d < N) {x : Operand} {X : Abs.X} {t e : TypeId} {sz0 : Nat} {lo hi mx : Option Operand} {LO HI MX : Option Abs.X} (hx : OpRel nm X x) (ho : o.op = .slice t x lo hi mx) (ht : P.underlying t = some (.slice e)) (hs : szOf P e = some sz0) (hs0 : sz0 ≠ 0)
    (hlo : ∀ x, lo = some x → ∃ y, LO = some y ∧ OpRel nm y x) (hlo0 : lo = none → LO = none) (hhi : ∀ x, hi = some x → ∃ y, HI = some y ∧ OpRel nm y x) (hhi0 : hi = none → HI = none)
    (hmx : ∀ x, mx = some x → ∃ y, MX = some y ∧ OpRel nm y x) (hmx0 : mx = none → MX = none) (hmxh : mx ≠ none → hi ≠ none)
    (hr : (evOp Cl d (.slice sz0 X LO HI MX)).run S = some r) : OpsTo P a w o (Aft nm N S w L a o.dst r.1 r.2) := by
  simp only [evOp] at hr
  obtain ⟨v1, h1, h2⟩ := Q.run_bind_some hr
  clear hr
  have r1 := rd_val R hx h1
  have bnd : ∀ {l h len cap : Nat}, (optNat LO 0).run S = some l → (optNat HI len).run S = some h → l ≤ h → h ≤ len → len ≤ cap → (Instr.sliceBounds true len cap (lo.map a.eval) (hi.map a.eval) none).run P w = .ok (l, h, cap) w :=
    fun h3 h5 g1 g2 g3 => sliceBounds_run ((optNat_run R hlo hlo0 h3).imp (fun h => ⟨by rw [h.1]; rfl, h.2⟩) (fun ⟨x, k, h1, h2⟩ => ⟨k, by rw [h1]; simp [h2]⟩))
      ((optNat_run R hhi hhi0 h5).imp (fun h => ⟨by rw [h.1]; rfl, h.2⟩) (fun ⟨x, k, h1, h2⟩ => ⟨k, by rw [h1]; simp [h2]⟩)) g1 g2 g3
  have ex : ∀ {b : Option Addr} {len cap l h : Nat}, a.eval x = .slice b len cap → mx = none → (optNat LO 0).run S = some l → (optNat HI len).run S = some h → l ≤ h → h ≤ len → len ≤ cap →
      (execOp a.eval o).run P w = .ok (.value (.slice (if cap = l then b else b.map (·.add (l * sz0))) (h - l) (cap - l))) w := by
    intro b len cap l h hb hm h3 h5 g1 g2 g3
    have hbd := bnd h3 h5 g1 g2 g3
    have : (Instr.sliceAt t (a.eval x) (lo.map a.eval) (hi.map a.eval) (mx.map a.eval)).run P w = .ok (.slice (if cap = l then b else b.map (·.add (l * sz0))) (h - l) (cap - l)) w := by
      rw [hb, hm]
      simp [Instr.sliceAt, Instr.slice, run_underlying ht, hbd, run_sizeOf' hs]
    simp [execOp, ho, this]
  split at h2
  · cases h2
  · rename_i t' sz rows hno
    obtain ⟨l, h3, h4⟩ := Q.run_bind_some h2
    clear h2
    obtain ⟨h, h5, h6⟩ := Q.run_bind_some h4
    clear h4
    obtain ⟨hg, h7⟩ := Q.run_guard_some h6
    clear h6
    simp only [Bool.and_eq_true, decide_eq_true_eq, Bool.or_eq_true, beq_iff_eq, List.isEmpty_iff] at hg
    obtain ⟨⟨hsz0, hg1⟩, hg2⟩ := hg
    have hvd := r1.one_inv
    have hplain : ∃ u, a.eval x = u ∧ RepP w L (.sl t' sz rows) u := by
      refine ⟨_, rfl, ?_⟩
      generalize a.eval x = u at hvd
      cases hvd with
      | d hd =>
        cases hd with
        | plain hp => exact hp
        | ownE => simp at hno
        | own => simp at hno
    obtain ⟨u, hu, hp⟩ := hplain
    split at h7
    · -- no third bound
      have hm : mx = none := by
        cases mx with
        | none => rfl
        | some m => obtain ⟨y, hy, _⟩ := hmx m rfl; cases hy
      obtain rfl := Q.run_pure_some h7
      cases hp with
      | nil =>
        have hl0 : l = 0 := by simp at hg2; omega
        have hh0 : h = 0 := by simpa using hg2
        subst hl0; subst hh0
        refine opVal R hd (v := .slice none 0 0) ?_ (.one (.d (.plain (by simpa using RepP.nil))))
        have := ex hu hm h3 h5 (Nat.le_refl _) (Nat.le_refl _) (Nat.le_refl _)
        simpa using this
      | @plE _ ad cap =>
        have hl0 : l = 0 := by simp at hg2; omega
        have hh0 : h = 0 := by simpa using hg2
        subst hl0; subst hh0
        refine opVal R hd (v := .slice (if cap = 0 then some ad else (some ad).map (·.add (0 * sz0))) 0 (cap - 0)) ?_ (.one (.d (.plain (by split <;> simpa using RepP.plE))))
        exact ex hu hm h3 h5 (Nat.le_refl _) (Nat.le_refl _) (Nat.zero_le _)
      | @pl sz rows B o' cap cur e' fz val hne hsz hcapp hL hB hlen hvv hrr =>
        obtain rfl : sz = sz0 := hsz0.resolve_right hne
        refine opVal R hd (ex hu hm h3 h5 hg1 hg2 hcapp) (.one (.d (.plain ?_)))
        by_cases hlh : h = l
        · rw [hlh, Nat.sub_self, List.take_zero]; split <;> exact .plE
        · have hcl : cap ≠ l := by omega
          have hll : ((rows.drop l).take (h - l)).length = h - l := by rw [List.length_take, List.length_drop]; omega
          rw [if_neg hcl]
          show RepP w L _ (.slice (some ((⟨B, o', none⟩ : Addr).add (l * sz))) (h - l) (cap - l))
          rw [add_off]
          have hcell : ∀ i c y, cellOf ((rows.drop l).take (h - l)) i c = some y → cellOf rows (l + i) c = some y := by
            intro i c y hy
            obtain ⟨rr, k1, k2⟩ := cellOf_some.1 hy
            have hil : i < h - l := by
              have := (List.getElem?_eq_some_iff.1 k1).1
              rw [hll] at this; exact this
            rw [List.getElem?_take_of_lt hil, List.getElem?_drop] at k1
            exact cellOf_some.2 ⟨rr, k1, k2⟩
          suffices hsuf : RepP w L (.sl (.im false) sz ((rows.drop l).take (h - l))) (.slice (some ⟨B, o' + l * sz, none⟩) ((rows.drop l).take (h - l)).length (cap - l)) by rwa [hll] at hsuf
          refine .pl (fun i c => val (l + i) c) ?_ hsz (by omega) hL hB ?_ ?_ ?_
          · intro e0; rw [e0] at hll; simp at hll; omega
          · intro r1 hr1
            exact hlen r1 (List.mem_of_mem_drop (List.mem_of_mem_take hr1))
          · intro i c y hy
            have := hvv _ _ _ (hcell i c y hy)
            rw [Nat.add_mul] at this
            rw [show o' + l * sz + i * sz + c = o' + (l * sz + i * sz) + c by omega]
            exact this
          · intro i c y hy
            exact hrr _ _ _ (hcell i c y hy)
    · -- a third bound: nothing is left
      rename_i mX
      obtain ⟨vm, h8, h9⟩ := Q.run_bind_some h7
      clear h7
      obtain ⟨mm, h10, h11⟩ := Q.run_ofO_some h9
      clear h9
      obtain ⟨hg3, h12⟩ := Q.run_guard_some h11
      clear h11
      simp only [Bool.and_eq_true, beq_iff_eq] at hg3
      obtain ⟨⟨rfl, rfl⟩, rfl⟩ := hg3
      obtain rfl := Q.run_pure_some h12
      cases hmxe : mx with
      | none => cases hmx0 hmxe
      | some m =>
        obtain ⟨y, hy, hym⟩ := hmx m hmxe
        cases hy
        obtain ⟨km, hkm⟩ := asNat_inv (rd_val R hym h8) h10
        obtain ⟨ad, len, cap, hue, hres⟩ : ∃ ad len cap, u = .slice ad len cap ∧ RepD w L ⟨.h 0, 0, []⟩ (.sl t'.emptied sz []) (.slice ad 0 0) := by
          cases hp with
          | nil => exact ⟨_, _, _, rfl, .plain .nil⟩
          | plE => exact ⟨_, _, _, rfl, .ownE⟩
          | pl => exact ⟨_, _, _, rfl, .ownE⟩
        have hiv : ∃ k, hi.map a.eval = some (.int k 0) := by
          rcases optNat_run R hhi hhi0 h5 with ⟨h, _⟩ | ⟨x, k, h1, h2⟩
          · exact absurd h (hmxh (by rw [hmxe]; simp))
          · exact ⟨k, by rw [h1]; simp [h2]⟩
        obtain ⟨kh, hkh⟩ := hiv
        have hlv : (lo.map a.eval = none) ∨ ∃ k, lo.map a.eval = some (.int k 0) := by
          rcases optNat_run R hlo hlo0 h3 with ⟨h, _⟩ | ⟨x, k, h1, h2⟩
          · exact .inl (by rw [h]; rfl)
          · exact .inr ⟨k, by rw [h1]; simp [h2]⟩
        refine opVal R hd (v := .slice ad 0 0) ?_ (.one (.d hres))
        have : (Instr.sliceAt t (a.eval x) (lo.map a.eval) (hi.map a.eval) (mx.map a.eval)).run P w = .ok (.slice ad 0 0) w := by
          rw [hu, hue, hkh, hmxe]
          rcases hlv with hlv | ⟨kl, hlv⟩ <;> rw [hlv] <;>
            simp [Instr.sliceAt, Instr.slice, run_underlying ht, Instr.sliceBounds, Instr.sliceBound, asIntOf, hkm, run_sizeOf' hs]
        simp [execOp, ho, this]
  · rename_i pl g sz off len
    obtain ⟨l, h3, h4⟩ := Q.run_bind_some h2
    clear h2
    obtain ⟨h, h5, h6⟩ := Q.run_bind_some h4
    clear h4
    obtain ⟨hg, h7⟩ := Q.run_guard_some h6
    clear h6
    simp only [Bool.and_eq_true, decide_eq_true_eq, beq_iff_eq, Option.isNone_iff_eq_none] at hg
    obtain ⟨⟨⟨⟨rfl, hg1⟩, hg2⟩, hmn⟩, hg8⟩ := hg
    have hm : mx = none := by
      cases mx with
      | none => rfl
      | some m => obtain ⟨y, hy, _⟩ := hmx m rfl; rw [hmn] at hy; cases hy
    obtain rfl := Q.run_pure_some h7
    cases r1.one_inv with
    | view hv0 hh hgl hV =>
      obtain ⟨b, cap, hb, hlc, hbs⟩ := hv0
      refine opVal R hd (ex hb hm h3 h5 hg1 hg2 hlc) (.one (.view ?_ hh hgl (fun he => ?_)))
      · refine ⟨_, _, rfl, by omega, ?_⟩
        obtain ⟨ad, rfl⟩ := Option.isSome_iff_exists.1 hbs
        split <;> rfl
      · rcases hV he with ⟨h0, a0, hval⟩ | ⟨B, o', cap', cur, e', fz, hval, hsz, hL, hB, hfz, hlc', hroom, h8v⟩
        · rw [hb] at hval
          simp only [Value.slice.injEq] at hval
          obtain ⟨rfl, _, rfl⟩ := hval
          have : l = 0 := by omega
          subst this
          exact .inl ⟨by omega, a0, by simp; omega⟩
        · rw [hb] at hval
          simp only [Value.slice.injEq, true_and] at hval
          obtain ⟨rfl, rfl⟩ := hval
          by_cases hcl : cap = l
          · subst hcl
            exact .inl ⟨by omega, _, by rw [if_pos rfl, show h - cap = 0 from by omega, Nat.sub_self]⟩
          · right
            refine ⟨B, o', cap - l, cur, e', fz, ?_, hsz, hL, hB, hfz, by omega, ?_, fun q1 q2 => h8v (by omega) (by simp only [Bool.or_eq_true, decide_eq_true_eq, beq_iff_eq] at hg8; omega)⟩
            · rw [if_neg hcl]
              show Value.slice (some ((⟨B, o' + off * sz, none⟩ : Addr).add (l * sz))) _ _ = _
              rw [add_off, Nat.add_mul, Nat.add_assoc]
            · rw [Nat.add_mul]
              have : (cap - l) * sz + l * sz = cap * sz := by rw [← Nat.add_mul, Nat.sub_add_cancel (by omega)]
              omega
  · cases h2
end
end
section
section
variable {nm : FuncId → Option Nat} {N : Nat} {S S0 : St} {a : Act} {w w0 : World} {L L0 : LabF} {P : Program} {o : Oper} {Cl : Oracle} {d : Nat} {r : V × List Wr} {ws : List Wr}
theorem mapM_inv {α β : Type} {f : α → Option β} : ∀ (l : List α) {r : List β}, l.mapM f = some r → r.length = l.length ∧ ∀ (j : Nat) y, r[j]? = some y → ∃ x, l[j]? = some x ∧ f x = some y
  | [], r, h => by
    have : r = [] := by simpa using h.symm
    subst this
    exact ⟨rfl, fun j y hy => by simp at hy⟩
  | x :: l, r, h => by
    rw [List.mapM_cons] at h
    cases hx : f x with
    | none => simp [hx] at h
    | some y =>
      cases hl : l.mapM f with
      | none => simp [hx, hl] at h
      | some r' =>
        simp [hx, hl] at h
        subst h
        obtain ⟨h1, h2⟩ := mapM_inv l hl
        refine ⟨by simp [h1], fun j z hz => ?_⟩
        cases j with
        | zero => simp at hz; subst hz; exact ⟨x, rfl, hx⟩
        | succ j => obtain ⟨x', g1, g2⟩ := h2 j z (by simpa using hz); exact ⟨x', by simpa using g1, g2⟩
def ConstC (c : C) (u : Value) : Prop := (∃ sz, constC sz u = some c)
theorem ConstC.rep {c : C} {u : Value} (h : ConstC c u) (w : World) (L : LabF) (γ : Key → Nat) (k : Key) (j : Nat) : RepC nm w L γ k j c u := by
  obtain ⟨sz, h⟩ := h; exact (constC_rep h).1 w L γ k j
theorem ConstC.own {c : C} {u : Value} (h : ConstC c u) : c.own = false := by
  obtain ⟨sz, h⟩ := h; exact (constC_rep (nm := fun _ => none) h).2
theorem zeroC_inv {t : TypeId} {zs : List C} (h : zeroC P t = some zs) : ∃ i z, P.info? t = some i ∧ i.zero = some z ∧ z.cells.size = zs.length ∧ z.cells.size = i.size ∧ ∀ (j : Nat) c u, zs[j]? = some c → z.cells[j]? = some u → ConstC c u := by
  unfold zeroC at h
  split at h
  · rename_i i l h1 h2
    split at h
    · rename_i z hz
      split at h
      · rename_i hc
        obtain ⟨g1, g2⟩ := mapM_inv _ h
        refine ⟨i, z, h1, hz, by rw [g1]; simp [← hc.1], hc.2, ?_⟩
        intro j c u hj hu
        obtain ⟨x, k1, k2⟩ := g2 j c hj
        rw [List.getElem?_zip_eq_some] at k1
        have : x.2 = u := by
          have := k1.2
          rw [Array.getElem?_toList, hu] at this
          simpa using this.symm
        rw [this] at k2
        exact ⟨_, k2⟩
      · cases h
    · cases h
  · cases h
theorem boxed_rep (M : Mid nm N S0 w0 L0 ws a w L) {m : Nat} {cs : List C} {vs : Array Value} {e : TypeId} (hl : cs.length = vs.size)
    (hx : ∀ (j : Nat) x v, cs[j]? = some x → vs[j]? = some v → RepC nm w L (S0.wrs ws).γ (.h m) j x v) (hr : (boxed d cs ws).run S0 = some r) {dst : Option Nat} (hd : ∀ d, dst = some d → d < N) :
    Aft nm N S0 w0 L0 a dst r.1 r.2 (.pointer (some ⟨w.heap.size, 0, none⟩)) (w.alloc (.cells vs e)) := by
  unfold boxed at hr
  rw [Q.run_bind, atP_run, Option.bind_some] at hr
  obtain ⟨hg, h2⟩ := Q.run_guard_some hr
  clear hr
  obtain rfl := Q.run_pure_some h2
  have hn : boxN ((S0.wrs ws).E (.r (.l d))) = 0 ∨ boxN ((S0.wrs ws).E (.r (.l d))) = cs.length := by
    simpa using hg
  obtain ⟨R, hm, _⟩ := M.rel.newBox (r := .l d) (cs := cs) (vs := vs) (e := e) rfl (by simp) hl hn hx
  have hγ : S0.γ (.r (.l d)) + 1 ≤ (S0.wrs (cellWrs (.l d) 0 cs ({ k := .r (.l d), v := sizeV cs.length } :: ws))).γ (.r (.l d)) := by
    refine Nat.le_trans ?_ (cellWrs_E S0 (.l d) cs 0 ({ k := .r (.l d), v := sizeV cs.length } :: ws) (.r (.l d))).2.2.2
    simp only [St.wrs, St.γ_wr, if_true]
    have := St.γ_wrs_le S0 ws (.r (.l d))
    simp; exact this
  exact R.aft (M.mono.trans hm) hd (.one (.ptr (k := .h 0) ⟨_, rfl⟩ hγ (fun _ => ⟨_, 0, boxL_new, rfl⟩)))
theorem ev_alloc (R : Rel nm N S a w L) (hd : ∀ d, o.dst = some d → d < N) {t : TypeId} {zs : List C} (ho : o.op = .alloc t) (hz : zeroC P t = some zs)
    (hr : (evOp Cl d (.alloc zs)).run S = some r) : OpsTo P a w o (Aft nm N S w L a o.dst r.1 r.2) := by
  simp only [evOp] at hr
  obtain ⟨i, z, h1, h2, h3, h4, h5⟩ := zeroC_inv hz
  refine .val (v := .pointer (some ⟨w.heap.size, 0, none⟩)) (w' := w.alloc (.cells z.cells t)) ?_ (boxed_rep (Mid.init R) (m := 0) h3.symm (fun j x v hx hv => (h5 j x v hx hv).rep _ _ _ _ _) hr hd)
  have : (Instr.alloc t true (.tuple #[])).run P w = .ok (.pointer (some ⟨w.heap.size, 0, none⟩)) (w.alloc (.cells z.cells t)) := by
    simp [Instr.alloc, zeroValue, typeInfo, h1, h2, newVar, newRow]
  simp [execOp, ho, this]
theorem st_live {c : C} {r : C × List Wr} (h : (st ws c).run S = some r) : c ≠ .dead := by
  rintro rfl
  simp [st] at h
theorem stL_live : ∀ (cs : List C) {ws : List Wr} {r : List C × List Wr}, (stL ws cs).run S = some r → ∀ c ∈ cs, c ≠ .dead
  | [], _, _, _, c, hc => by simp at hc
  | x :: cs, ws, r, h, c, hc => by
    simp only [stL] at h
    obtain ⟨r1, h1, h2⟩ := Q.run_bind_some h
    obtain ⟨r2, h3, _⟩ := Q.run_bind_some h2
    rcases List.mem_cons.1 hc with rfl | hc
    · exact st_live h1
    · exact stL_live cs h3 c hc
theorem LimV.cells {γ0 γ : Key → Nat} (hs : Step w0 w L0 L γ0 γ) {m : Nat} {x : V} {v : Value} (h : LimV nm w0 L0 γ0 w L γ m x v) (hx : ∀ vs, x ≠ .tup vs) (hl : ∀ c ∈ x.cells, c ≠ .dead) :
    x.cells.length = v.cells.size ∧ ∀ (j : Nat) c u, x.cells[j]? = some c → v.cells[j]? = some u → LimC nm w0 L0 γ0 w L γ m j c u := by
  cases x with
  | one c =>
    have hc : LimC nm w0 L0 γ0 w L γ m 0 c v := h
    have h1 := (hc.rep hs).oneCell (hl c (by simp [V.cells]))
    have hv : v.cells = #[v] := by cases v <;> first | rfl | simp [Value.oneCell'] at h1
    rw [hv]
    refine ⟨rfl, fun j c' u h2 h3 => ?_⟩
    cases j with
    | zero => simp [V.cells] at h2 h3; subst h2; subst h3; exact hc
    | succ j => simp [V.cells] at h2
  | agg cs =>
    obtain ⟨vs, rfl, h1, h2⟩ := h
    exact ⟨h1, h2⟩
  | tup vs => exact absurd rfl (hx vs)
theorem wholesome {v : V} {n : Nat} (hn : n ≠ 0) {cs : List C} (h : cs.length = n) (hv : cs.length = v.cells.length) : ∀ vs, v ≠ .tup vs := by
  rintro vs rfl
  have : cs.length = 0 := hv
  omega
theorem part_rep (M : Mid nm N S0 w0 L0 ws a w L) (R0 : Rel nm N S0 a w0 L0) {m : Nat} (hm : FreeH L m) {x : Operand} {X : Abs.X} (hx : OpRel nm X x) (hok : X.okC = true) {v : V} {ws1 : List Wr} (h1 : (tk ws X).run S0 = some (v, ws1)) {cs : List C} {ws2 : List Wr}
    (h2 : (stL ws1 v.cells).run S0 = some (cs, ws2)) (hn : cs.length ≠ 0) :
    ∃ L', Out nm N S0 w0 L0 ws ws2 a w L L' (fun q => q.k ≠ .h m) m ∧ cs.length = (a.eval x).cells.size ∧
      ∀ (j : Nat) c u, cs[j]? = some c → (a.eval x).cells[j]? = some u → RepC nm w L' (S0.wrs ws2).γ (.h m) j c u := by
  obtain ⟨L1, O1, V1⟩ := tk_rep M R0 hm hok hx h1
  have hlen : cs.length = v.cells.length := by
    have : ∀ (l : List C) (ws : List Wr) (r : List C × List Wr), (stL ws l).run S0 = some r → r.1.length = l.length := by
      intro l
      induction l with
      | nil => intro ws r h; simp only [stL] at h; obtain rfl := Q.run_pure_some h; rfl
      | cons y l ih =>
        intro ws r h
        simp only [stL] at h
        obtain ⟨r1, g1, g2⟩ := Q.run_bind_some h
        obtain ⟨r2, g3, g4⟩ := Q.run_bind_some g2
        obtain rfl := Q.run_pure_some g4
        simp [ih _ _ g3]
    exact this _ _ _ h2
  have hnt : ∀ vs, v ≠ .tup vs := wholesome hn rfl hlen
  obtain ⟨c1, c2⟩ := V1.cells O1.mid.stp hnt (stL_live _ h2)
  obtain ⟨L2, O2, l2, R2⟩ := stL_rep (m := m) v.cells O1.mid 0 (fun j => (a.eval x).cells.getD j undef) (fun j c hc => by
    have hj : j < (a.eval x).cells.size := by rw [← c1]; exact (List.getElem?_eq_some_iff.1 hc).1
    have := c2 j c _ hc (Array.getElem?_eq_getElem hj)
    simpa [Array.getD, hj] using this) h2
  refine ⟨L2, (O1.weaken (fun _ _ => trivial)).trans (O2.weaken (fun q hq h => hq h.1)), by rw [← c1]; exact l2, ?_⟩
  intro j c u hc hu
  have := R2 j c hc
  simpa [Array.getD_eq_getD_getElem?, hu] using this
theorem ev_box (R : Rel nm N S a w L) (hH : NoH L) (hd : ∀ d, o.dst = some d → d < N) {t : TypeId} {n : Nat} {x : Operand} {X : Abs.X} (hx : OpRel nm X x) (hok : X.okC = true) (ho : o.op = .box t x) (hn : n ≠ 0)
    (hr : (evOp Cl d (.box n X)).run S = some r) : OpsTo P a w o (Aft nm N S w L a o.dst r.1 r.2) := by
  simp only [evOp] at hr
  obtain ⟨⟨v, ws1⟩, h1, h2⟩ := Q.run_bind_some hr
  clear hr
  obtain ⟨⟨cs, ws2⟩, h3, h4⟩ := Q.run_bind_some h2
  clear h2
  obtain ⟨hg, h5⟩ := Q.run_guard_some h4
  clear h4
  simp only [beq_iff_eq] at hg
  obtain ⟨L', O, hl, hc⟩ := part_rep (Mid.init R) R (m := 0) (fun B q o hB e => by have := hH B q o hB; rw [e] at this; simp [Key.isPl] at this) hx hok h1 h3 (by omega)
  refine .val (v := .pointer (some ⟨w.heap.size, 0, none⟩)) (w' := w.alloc (.cells (a.eval x).cells t)) ?_ (boxed_rep O.mid hl hc h5 hd)
  have : (Instr.box t (a.eval x)).run P w = .ok (.pointer (some ⟨w.heap.size, 0, none⟩)) (w.alloc (.cells (a.eval x).cells t)) := by
    simp [Instr.box, newVar, newRow]
  simp [execOp, ho, this]
end
end
section
section
variable {nm : FuncId → Option Nat} {N : Nat} {S S0 : St} {a : Act} {w w0 : World} {L L0 : LabF} {P : Program} {o : Oper} {Cl : Oracle} {d : Nat} {r : V × List Wr} {ws : List Wr}
theorem Mid.relabH (M : Mid nm N S0 w0 L0 ws a w L) {f : Place → Option Place} (hfix : ∀ q : Place, q.k.isPl = true → f q = some q) (hback : ∀ q t, f q = some t → t.k.isPl = true → q = t) (hinj : ∀ q q' t, f q = some t → f q' = some t → q = q') :
    Mid nm N S0 w0 L0 ws a w (relab f L) ∧ Step w w L (relab f L) (S0.wrs ws).γ (S0.wrs ws).γ := by
  have hst : Step w w L (relab f L) (S0.wrs ws).γ (S0.wrs ws).γ :=
    ⟨fun B hB => ⟨relab_imm.2 hB, rfl⟩, fun _ => Nat.le_refl _, fun B q o hq _ hB => ⟨relab_of_row hB (hfix q hq), fun cur e fz h => ⟨cur, h, rfl⟩⟩, fun _ _ _ _ _ _ _ => rfl, fun B r o _ hB => relab_box.2 hB⟩
  refine ⟨⟨M.rel.relabH hfix hinj, M.stp.trans hst, M.mono.trans (relab_mono f), ?_, M.heap, M.inj0, fun B r o hB => relab_box.2 (M.boxes B r o hB)⟩, hst⟩
  intro B q o hq hB
  obtain ⟨q0, h1, h2⟩ := relab_row hB
  rw [hback q0 q h2 hq] at h1
  exact M.rows B q o hq h1
theorem RepC.relabTo {f : Place → Option Place} {k k' : Key} {j j' : Nat} {γ : Key → Nat} {c : C} {v : Value} (hst : Step w w L (relab f L) γ γ) (h : RepC nm w L γ k j c v) (hf : ∀ p, f ⟨k, j, p⟩ = some ⟨k', j', p⟩) (hkk : (∃ r c, k = .b r c) → ∃ r c, k' = .b r c := by first | exact fun h => h | exact fun _ => ⟨_, _, rfl⟩ | (rintro ⟨r, c, h⟩; cases h; done)) : RepC nm w (relab f L) γ k' j' c v := by
  refine h.step hst ?_ (hkk := hkk)
  intro B q o h1 h2 hL
  refine ⟨relab_of_row hL ?_, rfl⟩
  have := hf q.p
  rw [← h1, ← h2] at this
  exact this
def partTo (off n : Nat) : Place → Option Place := fun q =>
  if q.k = .h 1 then (if q.j < n then some ⟨.h 0, off + q.j, q.p⟩ else none)
  else if q.k = .h 0 then (if off ≤ q.j ∧ q.j < off + n then none else some q)
  else some q
theorem partTo_cases {off n : Nat} {q t : Place} (h : partTo off n q = some t) : (q.k = .h 1 ∧ q.j < n ∧ t = ⟨.h 0, off + q.j, q.p⟩) ∨ (q.k = .h 0 ∧ ¬ (off ≤ q.j ∧ q.j < off + n) ∧ t = q) ∨ (q.k ≠ .h 1 ∧ q.k ≠ .h 0 ∧ t = q) := by
  unfold partTo at h
  split at h
  · split at h
    · simp only [Option.some.injEq] at h; exact .inl ⟨‹_›, ‹_›, h.symm⟩
    · cases h
  · split at h
    · split at h
      · cases h
      · simp only [Option.some.injEq] at h; exact .inr (.inl ⟨‹_›, ‹_›, h.symm⟩)
    · simp only [Option.some.injEq] at h; exact .inr (.inr ⟨‹_›, ‹_›, h.symm⟩)
theorem partTo_inj {off n : Nat} {q q' t : Place} (h1 : partTo off n q = some t) (h2 : partTo off n q' = some t) : q = q' := by
  rcases partTo_cases h1 with ⟨a1, a2, a3⟩ | ⟨a1, a2, a3⟩ | ⟨a1, a2, a3⟩ <;> rcases partTo_cases h2 with ⟨b1, b2, b3⟩ | ⟨b1, b2, b3⟩ | ⟨b1, b2, b3⟩
  · rw [a3] at b3
    simp only [Place.mk.injEq, true_and] at b3
    obtain ⟨k, j, p⟩ := q; obtain ⟨k', j', p'⟩ := q'
    simp only at *
    rw [a1, b1, b3.2, show j = j' by omega]
  · exact absurd (by rw [← b3, a3]; simp; omega) b2
  · exact absurd (by rw [← b3, a3]) b2
  · exact absurd (by rw [← a3, b3]; simp; omega) a2
  · rw [← a3, ← b3]
  · exact absurd (by rw [← b3, a3]; exact a1) b2
  · exact absurd (by rw [← a3, b3]) a2
  · exact absurd (by rw [← a3, b3]; exact b1) a2
  · rw [← a3, ← b3]
theorem partTo_fix {off n : Nat} {q : Place} (h : q.k.isPl = true) : partTo off n q = some q := by
  unfold partTo
  rw [if_neg (fun e => by rw [e] at h; simp [Key.isPl] at h), if_neg (fun e => by rw [e] at h; simp [Key.isPl] at h)]
theorem partTo_back {off n : Nat} {q t : Place} (h : partTo off n q = some t) (ht : t.k.isPl = true) : q = t := by
  rcases partTo_cases h with ⟨_, _, rfl⟩ | ⟨_, _, h⟩ | ⟨_, _, h⟩
  · simp [Key.isPl] at ht
  · exact h.symm
  · exact h.symm
def upd (cells : Array Value) (off : Nat) (vs : Array Value) : Array Value := vs.zipIdx.foldl (fun cs (c, j) => cs.setIfInBounds (off + j) c) cells
theorem upd_list (off : Nat) : ∀ (l : List Value) (j0 : Nat) (cells : Array Value), ((l.zipIdx j0).foldl (fun cs (c, j) => cs.setIfInBounds (off + j) c) cells).size = cells.size ∧
    ∀ k, k < cells.size → ((l.zipIdx j0).foldl (fun cs (c, j) => cs.setIfInBounds (off + j) c) cells)[k]? = if off + j0 ≤ k ∧ k < off + j0 + l.length then l[k - (off + j0)]? else cells[k]?
  | [], j0, cells => ⟨rfl, fun k hk => by simp; intro h1 h2; omega⟩
  | v :: l, j0, cells => by
    obtain ⟨h1, h2⟩ := upd_list off l (j0 + 1) (cells.setIfInBounds (off + j0) v)
    simp only [List.zipIdx_cons, List.foldl_cons]
    refine ⟨by rw [h1]; simp, fun k hk => ?_⟩
    rw [h2 k (by simpa using hk)]
    by_cases hk1 : off + (j0 + 1) ≤ k ∧ k < off + (j0 + 1) + l.length
    · rw [if_pos hk1, if_pos ⟨by omega, by simp; omega⟩, show k - (off + j0) = (k - (off + (j0 + 1))) + 1 by omega, List.getElem?_cons_succ]
    · rw [if_neg hk1]
      by_cases hk2 : k = off + j0
      · subst hk2
        rw [if_pos ⟨Nat.le_refl _, by simp⟩, Nat.sub_self]
        simp [Array.getElem?_setIfInBounds, hk]
      · rw [Array.getElem?_setIfInBounds_ne (fun e => hk2 e.symm), if_neg (by simp; omega)]
theorem upd_spec (cells : Array Value) (off : Nat) (vs : Array Value) : (upd cells off vs).size = cells.size ∧ ∀ k, k < cells.size → (upd cells off vs)[k]? = if off ≤ k ∧ k < off + vs.size then vs[k - off]? else cells[k]? := by
  have := upd_list off vs.toList 0 cells
  unfold upd
  rw [← Array.foldl_toList, Array.toList_zipIdx]
  simpa using this
theorem splice_get {α : Type} {l : List α} {off : Nat} {cs : List α} (h : off + cs.length ≤ l.length) (k : Nat) : (splice l off cs)[k]? = if off ≤ k ∧ k < off + cs.length then cs[k - off]? else l[k]? := by
  unfold splice
  have h1 : (l.take off).length = off := by rw [List.length_take]; omega
  by_cases hk : k < off
  · rw [List.append_assoc, List.getElem?_append_left (by omega), List.getElem?_take_of_lt hk, if_neg (by omega)]
  · by_cases hk2 : k < off + cs.length
    · rw [List.append_assoc, List.getElem?_append_right (by omega), h1, List.getElem?_append_left (by omega), if_pos ⟨by omega, hk2⟩]
    · rw [List.getElem?_append_right (by rw [List.length_append, h1]; omega), List.length_append, h1, List.getElem?_drop, if_neg (by omega)]
      congr 1; omega
theorem splice_length {α : Type} {l : List α} {off : Nat} {cs : List α} (h : off + cs.length ≤ l.length) : (splice l off cs).length = l.length := by
  simp [splice]; omega
def PartsOk (nm : FuncId → Option Nat) (place : Nat → Option (Nat × Nat)) : List (Nat × Nat × Abs.X) → List (Nat × Operand) → Prop
  | [], [] => True
  | (off, n, X) :: t, (i, x) :: t' => place i = some (off, n) ∧ n ≠ 0 ∧ OpRel nm X x ∧ X.okC = true ∧ PartsOk nm place t t'
  | _, _ => False
theorem evParts_rep (R0 : Rel nm N S0 a w0 L0) {place : Nat → Option (Nat × Nat)} : ∀ (parts : List (Nat × Nat × Abs.X)) (ps : List (Nat × Operand)) {ws : List Wr} {L : LabF} {cells : List C} {vs : Array Value} (M : Mid nm N S0 w0 L0 ws a w L) (hf : FreeH L 1)
    (hl : cells.length = vs.size) (hc : ∀ (j : Nat) c u, cells[j]? = some c → vs[j]? = some u → RepC nm w L (S0.wrs ws).γ (.h 0) j c u) (hp : PartsOk nm place parts ps) {r : List C × List Wr} (hr : (evParts ws cells parts).run S0 = some r),
    ∃ L' vs', Instr.fill place vs (ps.map fun p => (p.1, a.eval p.2)) = some vs' ∧ Mid nm N S0 w0 L0 r.2 a w L' ∧ r.1.length = vs'.size ∧ ∀ (j : Nat) c u, r.1[j]? = some c → vs'[j]? = some u → RepC nm w L' (S0.wrs r.2).γ (.h 0) j c u
  | [], [], ws, L, cells, vs, M, hf, hl, hc, hp, r, hr => by
    simp only [evParts] at hr
    obtain rfl := Q.run_pure_some hr
    exact ⟨L, vs, rfl, M, hl, hc⟩
  | (off, n, X) :: parts, (i, x) :: ps, ws, L, cells, vs, M, hf, hl, hc, hp, r, hr => by
    obtain ⟨hpl, hn, hx, hok, hp⟩ := hp
    simp only [evParts] at hr
    obtain ⟨⟨v, ws1⟩, h1, h2⟩ := Q.run_bind_some hr
    clear hr
    obtain ⟨⟨cs, ws2⟩, h3, h4⟩ := Q.run_bind_some h2
    clear h2
    obtain ⟨hg, h5⟩ := Q.run_guard_some h4
    clear h4
    simp only [Bool.and_eq_true, beq_iff_eq, decide_eq_true_eq] at hg
    obtain ⟨hcl, hoff⟩ := hg
    obtain ⟨L1, O1, hl1, hc1⟩ := part_rep M R0 hf hx hok h1 h3 (by omega)
    obtain ⟨M2, hst⟩ := O1.mid.relabH (f := partTo off n) (fun q hq => partTo_fix hq) (fun q t h ht => partTo_back h ht) (fun q q' t a b => partTo_inj a b)
    have hf2 : FreeH (relab (partTo off n) L1) 1 := by
      intro B q o hB e
      obtain ⟨q0, _, h2⟩ := relab_row hB
      rcases partTo_cases h2 with ⟨_, _, h⟩ | ⟨h6, _, h⟩ | ⟨h6, _, h⟩
      · rw [h] at e; simp at e
      · rw [h, h6] at e; simp at e
      · rw [h] at e; exact h6 e
    obtain ⟨u1, u2⟩ := upd_spec vs off (a.eval x).cells
    have hle : off + cs.length ≤ cells.length := by omega
    obtain ⟨L', vs', g1, g2, g3, g4⟩ := evParts_rep R0 parts ps (cells := splice cells off cs) (vs := upd vs off (a.eval x).cells) M2 hf2 (by rw [splice_length hle, u1]; exact hl) (by
      intro j c u hj hu
      rw [splice_get hle] at hj
      have hju : j < vs.size := by rw [← u1]; exact (Array.getElem?_eq_some_iff.1 hu).1
      rw [u2 j hju, ← hl1] at hu
      by_cases hin : off ≤ j ∧ j < off + cs.length
      · rw [if_pos hin] at hj hu
        have := RepC.relabTo (k' := .h 0) (j' := j) hst (hc1 (j - off) c u hj hu) (fun p => by
          simp only [partTo, if_true]; rw [if_pos (by omega), show off + (j - off) = j by omega])
        exact this
      · rw [if_neg hin] at hj hu
        have h0 := (hc j c u hj hu).keep O1.keep (fun p => by simp)
        exact RepC.relabTo hst h0 (fun p => by
          simp only [partTo]; rw [if_neg (by simp), if_pos trivial, if_neg (by omega)])) hp h5
    refine ⟨L', vs', ?_, g2, g3, g4⟩
    simp only [List.map_cons, Instr.fill, hpl]
    rw [if_neg (by simp; omega)]
    exact g1
  | [], _ :: _, _, _, _, _, _, _, _, _, hp, _, _ => hp.elim
  | (_, _, _) :: _, [], _, _, _, _, _, _, _, _, hp, _, _ => hp.elim
theorem run_mapM_list {α β : Type} {f : α → Sem β} {g : α → β} : ∀ (l : List α), (∀ x ∈ l, (f x).run P w = .ok (g x) w) → (l.mapM f).run P w = .ok (l.map g) w
  | [], _ => by simp
  | x :: l, h => by
    rw [List.mapM_cons]
    simp [h x (by simp), run_mapM_list l (fun y hy => h y (by simp [hy]))]
theorem ev_build (R : Rel nm N S a w L) (hH : NoH L) (hd : ∀ d, o.dst = some d → d < N) {t : TypeId} {fs : Array Field} {parts : Array (Nat × Operand)} {zs : List C} {ps : List (Nat × Nat × Abs.X)} (ho : o.op = .build t parts) (hz : zeroC P t = some zs) (ht : P.underlying t = some (.struct fs))
    (hall : ∀ f ∈ fs.toList, (szOf P f.type).isSome = true) (hp : PartsOk nm (fun i => (fs.map fun f => (f.offset, (szOf P f.type).getD 0))[i]?) ps parts.toList)
    (hr : (evOp Cl d (.build zs ps)).run S = some r) : OpsTo P a w o (Aft nm N S w L a o.dst r.1 r.2) := by
  simp only [evOp] at hr
  obtain ⟨⟨cs, ws1⟩, h1, h2⟩ := Q.run_bind_some hr
  clear hr
  obtain rfl := Q.run_pure_some h2
  obtain ⟨i, z, k1, k2, k3, k4, k5⟩ := zeroC_inv hz
  obtain ⟨L', vs', g1, g2, g3, g4⟩ := evParts_rep R ps parts.toList (Mid.init R) (fun B q o hB e => by have := hH B q o hB; rw [e] at this; simp [Key.isPl] at this) (cells := zs) (vs := z.cells) k3.symm
    (fun j c u hj hu => (k5 j c u hj hu).rep _ _ _ _ _) hp h1
  refine .val (v := .agg vs') (w' := w) ?_ (g2.rel.aft g2.mono hd (.agg g3 g4))
  have hm : (fs.mapM fun f => do pure (f.offset, ← sizeOf f.type) : Sem _).run P w = .ok (fs.map fun f => (f.offset, (szOf P f.type).getD 0)) w := by
    rw [Array.mapM_eq_mapM_toList]
    rw [Sem.run_map, run_mapM_list (g := fun f => (f.offset, (szOf P f.type).getD 0)) fs.toList (fun f hf => by
      obtain ⟨n, hn⟩ := Option.isSome_iff_exists.1 (hall f hf)
      simp [run_sizeOf' hn, hn])]
    simp only [Result.andThen_ok]
    congr 1
    apply Array.ext'
    simp
  have : (Instr.build t (parts.map fun (i, x) => (i, a.eval x))).run P w = .ok (.agg vs') w := by
    simp only [Instr.build, Sem.run_bind, zeroValue, typeInfo, run_program, k1, k2, Result.andThen_ok, Sem.run_pure, run_underlying ht, hm]
    have hpe : (parts.map fun (i, x) => (i, a.eval x)).toList = parts.toList.map fun p => (p.1, a.eval p.2) := by simp
    rw [hpe, g1]
    rfl
  simp [execOp, ho, this]
end
end
end Go.Abs
