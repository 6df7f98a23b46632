/- Operations that only compute: arithmetic, comparisons, conversions, cuts. -/
import Derived.Test.YtjndnconlakjkaaAbsOps3
import Derived.Laws.Strings
import Derived.Laws.StructEq
set_option linter.unusedVariables false
set_option linter.unusedSimpArgs false
namespace Go.Abs
section
variable {nm : FuncId → Option Nat} {N : Nat} {S : St} {a : Act} {w : World} {L : LabF} {P : Program} {o : Oper} {Cl : Oracle} {d : Nat} {r : V × List Wr}

theorem execOp_binOp {op : BinOp} {t yt : TypeId} {x y : Operand} (ho : o.op = .binOp op t x y yt) (hg : (eqGuard op t x y (a.eval x) (a.eval y)).run P w = .ok () w) {v : Value} (hb : (binOp op t (a.eval x) (a.eval y)).run P w = .ok v w) :
    (execOp a.eval o).run P w = .ok (.value v) w := by
  simp [execOp, ho, hg, hb]

theorem eqGuard_noeq {op : BinOp} {t : TypeId} {x y : Operand} {u v : Value} (h1 : op ≠ .eql) (h2 : op ≠ .neq) : (eqGuard op t x y u v).run P w = .ok () w := by
  cases op <;> first | rfl | exact absurd rfl h1 | exact absurd rfl h2

theorem eqGuard_plain {op : BinOp} {t : TypeId} {x y : Operand} {u v : Value} (h1 : ∀ p q, u = .agg p → v = .agg q → False) (h2 : u = .nilIface → v = .nilIface → (isConstO x = true ∨ isConstO y = true)) :
    (eqGuard op t x y u v).run P w = .ok () w := by
  unfold eqGuard
  by_cases ho : op = .eql ∨ op = .neq
  · have hm : (match op with | .eql => true | .neq => true | _ => false) = true := by rcases ho with rfl | rfl <;> rfl
    rcases ho with rfl | rfl
    all_goals
      simp only [Bool.not_true, Bool.false_eq_true, if_false]
      cases u <;> cases v <;> first
        | rfl
        | exact (h1 _ _ rfl rfl).elim
        | (rcases h2 rfl rfl with hc | hc
           · cases x <;> simp_all [isConstO]
           · cases y <;> simp_all [isConstO])
  · have h1' : op ≠ .eql := fun e => ho (.inl e)
    have h2' : op ≠ .neq := fun e => ho (.inr e)
    cases op <;> first | rfl | exact absurd rfl h1' | exact absurd rfl h2'

theorem intOp_run {op : BinOp} {k : IntKind} {x y : Int} {t : TypeId} {z : D} (h : intOp op k x y = some z) (hs1 : op ≠ .shl) (hs2 : op ≠ .shr) : ∃ v, (binOp op t (.int k x) (.int k y)).run P w = .ok v w ∧ RepP w L z v := by
  cases op
  case add => cases h; exact ⟨_, by simp [binOp, Op.intArith], .int⟩
  case sub => cases h; exact ⟨_, by simp [binOp, Op.intArith], .int⟩
  case mul => cases h; exact ⟨_, by simp [binOp, Op.intArith], .int⟩
  case and => cases h; exact ⟨_, by simp [binOp, Op.intBits], .int⟩
  case or => cases h; exact ⟨_, by simp [binOp, Op.intBits], .int⟩
  case xor => cases h; exact ⟨_, by simp [binOp, Op.intBits], .int⟩
  case andNot => cases h; exact ⟨_, by simp [binOp, Op.intBits], .int⟩
  case eql => cases h; exact ⟨_, by simp [binOp, Op.intCmp], .bool⟩
  case neq => cases h; exact ⟨_, by simp [binOp, Op.intCmp], .bool⟩
  case lss => cases h; exact ⟨.bool (decide (x < y)), by simp [binOp, Op.intCmp], .bool⟩
  case leq => cases h; exact ⟨.bool (decide (x ≤ y)), by simp [binOp, Op.intCmp], .bool⟩
  case gtr => cases h; exact ⟨.bool (decide (x > y)), by simp [binOp, Op.intCmp], .bool⟩
  case geq => cases h; exact ⟨.bool (decide (x ≥ y)), by simp [binOp, Op.intCmp], .bool⟩
  case quo =>
    simp only [intOp] at h
    split at h
    · cases h
    · rename_i hy
      cases h
      exact ⟨_, by simp [binOp, Op.intDiv, hy], .int⟩
  case rem =>
    simp only [intOp] at h
    split at h
    · cases h
    · rename_i hy
      cases h
      exact ⟨_, by simp [binOp, Op.intDiv, hy], .int⟩
  case shl => exact absurd rfl hs1
  case shr => exact absurd rfl hs2

theorem shiftOp_run {op : BinOp} (ho : op = .shl ∨ op = .shr) {k k' : IntKind} {x y : Int} {t : TypeId} {z : D} (h : shiftOp op k x y = some z) : ∃ v, (binOp op t (.int k x) (.int k' y)).run P w = .ok v w ∧ RepP w L z v := by
  unfold shiftOp at h
  split at h
  · cases h
  · rename_i hy
    rcases ho with rfl | rfl
    · simp only [Option.some.injEq] at h
      subst h
      exact ⟨_, by simp only [binOp, Op.shift, hy, if_false]; rfl, .int⟩
    · simp only [Option.some.injEq] at h
      subst h
      exact ⟨_, by simp only [binOp, Op.shift, hy, if_false]; rfl, .int⟩

theorem bytes_append (x y : List UInt8) : (⟨x.toArray⟩ : ByteArray) ++ ⟨y.toArray⟩ = ⟨(x ++ y).toArray⟩ := by
  apply ByteArray.ext
  simp [ByteArray.data_append]

theorem bytesLess_eq : ∀ x y : List UInt8, Op.bytesLess x y = bytesLess x y
  | [], [] => rfl
  | _ :: _, [] => rfl
  | [], _ :: _ => rfl
  | a :: x, b :: y => by simp [Op.bytesLess, bytesLess, bytesLess_eq x y]

theorem strOp_run {op : BinOp} {x y : List UInt8} {t : TypeId} {z : D} (h : strOp op x y = some z) : ∃ v, (binOp op t (.string ⟨x.toArray⟩) (.string ⟨y.toArray⟩)).run P w = .ok v w ∧ RepP w L z v := by
  cases op
  case add =>
    simp only [strOp] at h
    split at h
    · rename_i hl
      cases h
      refine ⟨.string ⟨(x ++ y).toArray⟩, ?_, .str⟩
      have h1 : ¬ (9223372036854775807 < (x.length : Int) + (y.length : Int)) := by omega
      have h2 : IntKind.i64.max = 9223372036854775807 := by decide
      simp [binOp, Op.stringOp, bytes_size, bytes_append, h2, h1]
    · cases h
  case eql => cases h; exact ⟨.bool (x == y), by simp [binOp, Op.stringOp], .bool⟩
  case neq => cases h; exact ⟨.bool (!(x == y)), by simp [binOp, Op.stringOp], .bool⟩
  case lss => cases h; exact ⟨.bool (bytesLess x y), by simp [binOp, Op.stringOp, bytesLess_eq], .bool⟩
  case leq => cases h; exact ⟨.bool (bytesLess x y || x == y), by simp [binOp, Op.stringOp, bytesLess_eq], .bool⟩
  case gtr => cases h; exact ⟨.bool (!(bytesLess x y || x == y)), by simp [binOp, Op.stringOp, bytesLess_eq], .bool⟩
  case geq => cases h; exact ⟨.bool (!bytesLess x y), by simp [binOp, Op.stringOp, bytesLess_eq], .bool⟩
  all_goals simp [strOp] at h

theorem eqFlat_run {n : Nat} {γ : Key → Nat} {k : Key} {xs ys : Array Value} {cs ds : List C} (hcs : ∀ (j : Nat) c u, cs[j]? = some c → xs[j]? = some u → RepC nm w L γ k j c u) (hds : ∀ (j : Nat) c u, ds[j]? = some c → ys[j]? = some u → RepC nm w L γ k j c u)
    (hlc : cs.length = xs.size) (hld : ds.length = ys.size) : ∀ (fs : List Field) (i : Nat) {fl : List Fl} {b : Bool}, flatFields P i fs = some fl → eqFlat fl (cs.drop i) (ds.drop i) = some b → i ≤ cs.length → i ≤ ds.length →
      (Op.eqFields (n + 1) xs ys fs).run P w = .ok b w
  | [], i, fl, b, hf, he, h1, h2 => by
    simp only [flatFields, Option.some.injEq] at hf
    subst hf
    cases hc : cs.drop i with
    | cons c t => rw [hc] at he; simp [eqFlat] at he
    | nil =>
      cases hd : ds.drop i with
      | cons c t => rw [hc, hd] at he; simp [eqFlat] at he
      | nil =>
        rw [hc, hd] at he
        simp only [eqFlat, Option.some.injEq] at he
        subst he
        rfl
  | f :: fs, i, fl, b, hf, he, h1, h2 => by
    simp only [flatFields] at hf
    split at hf
    · rename_i hoff
      split at hf
      · rename_i x l hx hl
        simp only [Option.some.injEq] at hf
        subst hf
        have hname : f.name ≠ "_" := by
          intro e
          simp [flatField, e] at hx
        cases hc : cs.drop i with
        | nil => rw [hc] at he; cases x <;> simp [eqFlat] at he
        | cons c t =>
          cases hd : ds.drop i with
          | nil => rw [hc, hd] at he; cases x <;> cases c <;> (try (rename_i z; cases z)) <;> simp [eqFlat] at he
          | cons c' t' =>
            have hci : cs[i]? = some c := by have := congrArg (·[0]?) hc; simpa [List.getElem?_drop] using this
            have hdi : ds[i]? = some c' := by have := congrArg (·[0]?) hd; simpa [List.getElem?_drop] using this
            have hct : cs.drop (i + 1) = t := by rw [← List.drop_drop, hc]; rfl
            have hdt : ds.drop (i + 1) = t' := by rw [← List.drop_drop, hd]; rfl
            have hic : i < cs.length := (List.getElem?_eq_some_iff.1 hci).1
            have hid : i < ds.length := (List.getElem?_eq_some_iff.1 hdi).1
            obtain ⟨u, hu⟩ : ∃ u, xs[i]? = some u := ⟨xs[i]'(by omega), by simp⟩
            obtain ⟨u', hu'⟩ : ∃ u, ys[i]? = some u := ⟨ys[i]'(by omega), by simp⟩
            have r1 := hcs i c u hci hu
            have r2 := hds i c' u' hdi hu'
            rw [hc, hd] at he
            have part1 : ∀ {dd : TypeDesc}, P.underlying f.type = some dd → aggD dd = false → (part f.type xs f.offset).run P w = .ok u w ∧ (part f.type ys f.offset).run P w = .ok u' w := by
              intro dd hdd hagg
              have hia : (isAgg f.type).run P w = .ok false w := by
                unfold isAgg
                rw [Sem.run_bind, run_underlying hdd, Result.andThen_ok]
                cases dd <;> first | rfl | simp [aggD] at hagg
              subst hoff
              constructor <;> simp [part, hia, hu, hu']
            have fin : ∀ {b1 b2 : Bool}, (Op.equalIn (n + 1) f.type u u').run P w = .ok b1 w → eqFlat l t t' = some b2 → b = (b1 && b2) → ((part f.type xs f.offset).run P w = .ok u w ∧ (part f.type ys f.offset).run P w = .ok u' w) → (Op.eqFields (n + 1) xs ys (f :: fs)).run P w = .ok b w := by
              intro b1 b2 g1 g2 g3 ⟨g4, g5⟩
              have ih := eqFlat_run (n := n) hcs hds hlc hld fs (i + 1) hl (by rw [hct, hdt]; exact g2) hic hid
              simp only [Op.eqFields, hname, ne_eq, not_false_eq_true, if_true, Sem.run_bind, g4, g5, g1, Result.andThen_ok]
              cases b1
              · simp [g3]
              · simp [ih, g3]
            simp only [flatField, hname, if_false] at hx
            split at hx
            · rename_i kk hty
              cases hx
              cases c <;> (try (simp [eqFlat] at he; done))
              rename_i z; cases z <;> (try (simp [eqFlat] at he; done))
              cases c' <;> (try (simp [eqFlat] at he; done))
              rename_i z; cases z <;> (try (simp [eqFlat] at he; done))
              rename_i k1 n1 k2 n2
              simp only [eqFlat] at he
              split at he
              · rename_i hk
                subst hk
                cases hb : eqFlat l t t' with
                | none => simp [hb] at he
                | some b2 =>
                  simp only [hb, Option.map_some, Option.some.injEq] at he
                  have e1 := r1.int_inv
                  have e2 := r2.int_inv
                  exact fin (by rw [e1, e2]; exact run_equalIn_int w n f.type k1 kk n1 n2 hty) hb he.symm (part1 hty rfl)
              · cases he
            · rename_i hty
              cases hx
              cases c <;> (try (simp [eqFlat] at he; done))
              rename_i z; cases z <;> (try (simp [eqFlat] at he; done))
              cases c' <;> (try (simp [eqFlat] at he; done))
              rename_i z; cases z <;> (try (simp [eqFlat] at he; done))
              rename_i n1 n2
              simp only [eqFlat] at he
              cases hb : eqFlat l t t' with
              | none => simp [hb] at he
              | some b2 =>
                simp only [hb, Option.map_some, Option.some.injEq] at he
                have e1 := r1.bool_inv
                have e2 := r2.bool_inv
                exact fin (by rw [e1, e2]; exact run_equalIn_bool' w n f.type n1 n2 hty) hb he.symm (part1 hty rfl)
            · rename_i hty
              cases hx
              cases c <;> (try (simp [eqFlat] at he; done))
              rename_i z; cases z <;> (try (simp [eqFlat] at he; done))
              cases c' <;> (try (simp [eqFlat] at he; done))
              rename_i z; cases z <;> (try (simp [eqFlat] at he; done))
              rename_i n1 n2
              simp only [eqFlat] at he
              cases hb : eqFlat l t t' with
              | none => simp [hb] at he
              | some b2 =>
                simp only [hb, Option.map_some, Option.some.injEq] at he
                have e1 := r1.str_inv
                have e2 := r2.str_inv
                exact fin (b1 := n1 == n2) (by rw [e1, e2, run_equalIn_string w n f.type _ _ hty]; simp) hb he.symm (part1 hty rfl)
            · cases hx
      · cases hf
    · cases hf

theorem flatStruct_inv {t : TypeId} {fl : List Fl} (h : flatStruct P t = some fl) : ∃ fs, P.underlying t = some (.struct fs) ∧ P.stoodInHeld t = false ∧ P.eqGuardType P.depth t = false ∧ flatFields P 0 fs.toList = some fl := by
  unfold flatStruct at h
  split at h
  · rename_i fs hu
    split at h
    · rename_i hc
      exact ⟨fs, hu, hc.1, hc.2, h⟩
    · cases h
  · cases h

theorem equal_of {t : TypeId} {u v : Value} {b : Bool} (h : ∀ n, (Op.equalIn (n + 1) t u v).run P w = .ok b w) : (Op.equal t u v).run P w = .ok b w := h 9999
theorem equal_bool {t : TypeId} (h : P.underlying t = some .bool) (x y : Bool) : (Op.equal t (.bool x) (.bool y)).run P w = .ok (x == y) w :=
  equal_of fun n => run_equalIn_bool' w n t x y h

/-- What the class tells of the type. -/
def TCok (P : Program) (t : TypeId) : TC → Prop
  | .other => True
  | .bool => P.underlying t = some .bool
  | .struct fl => flatStruct P t = some fl
  | .ptr => ∃ e, P.underlying t = some (.pointer e)
  | .slice => ∃ e, P.underlying t = some (.slice e)
  | .func => ∃ x y z, P.underlying t = some (.func x y z)
  | .iface => ∃ m, P.underlying t = some (.interface m)

theorem classOf_ok {op : BinOp} {t : TypeId} {y : Operand} {tc : TC} (h : classOf P op t y = some tc) : TCok P t tc ∧ (tc = .iface → isConstO y = true) := by
  have go : (match P.underlying t with
    | some (.int _) => some TC.other
    | some .string => some .other
    | some .bool => some .bool
    | some (.struct _) => (flatStruct P t).map .struct
    | some (.pointer _) => some .ptr
    | some (.slice _) => some .slice
    | some (.func _ _ _) => some .func
    | some (.interface _) => if isConstO y then some .iface else none
    | _ => none) = some tc → TCok P t tc ∧ (tc = .iface → isConstO y = true) := by
    intro h
    split at h
    · cases h; exact ⟨trivial, by simp⟩
    · cases h; exact ⟨trivial, by simp⟩
    · rename_i hu; cases h; exact ⟨hu, by simp⟩
    · cases hf : flatStruct P t with
      | none => simp [hf] at h
      | some fl => simp only [hf, Option.map_some, Option.some.injEq] at h; subst h; exact ⟨hf, by simp⟩
    · rename_i e hu; cases h; exact ⟨⟨e, hu⟩, by simp⟩
    · rename_i e hu; cases h; exact ⟨⟨e, hu⟩, by simp⟩
    · rename_i x y z hu; cases h; exact ⟨⟨_, _, _, hu⟩, by simp⟩
    · rename_i m hu
      split at h
      · rename_i hc; cases h; exact ⟨⟨m, hu⟩, fun _ => hc⟩
      · cases h
    · cases h
  unfold classOf at h
  cases op <;> first
    | exact go h
    | (cases h; exact ⟨trivial, by simp⟩)

theorem isNil_run {γ : Key → Nat} {k k2 : Key} {j j2 : Nat} {t : TypeId} {tc : TC} {c0 c : C} {u v : Value} {b : Bool} (ht : TCok P t tc) (h0 : isNilC tc c0 = some true) (h : isNilC tc c = some b) (hc : RepC nm w L γ k j c u) (hc0 : RepC nm w L γ k2 j2 c0 v) :
    ((binOp .eql t u v).run P w = .ok (.bool b) w ∧ (binOp .neq t u v).run P w = .ok (.bool !b) w) ∧ (∀ p q, u = .agg p → v = .agg q → False) ∧ (tc ≠ .iface → v ≠ .nilIface) := by
  have two : (Op.equal t u v).run P w = .ok b w → (binOp .eql t u v = do pure (.bool (← Op.equal t u v))) → (binOp .neq t u v = do pure (.bool (!(← Op.equal t u v)))) →
      ((binOp .eql t u v).run P w = .ok (.bool b) w ∧ (binOp .neq t u v).run P w = .ok (.bool !b) w) := fun h1 h2 h3 => ⟨by rw [h2]; simp [h1], by rw [h3]; simp [h1]⟩
  cases tc with
  | other => simp [isNilC] at h0
  | bool => simp [isNilC] at h0
  | struct fl => simp [isNilC] at h0
  | ptr =>
    obtain ⟨e, ht⟩ := ht
    cases c0 <;> simp [isNilC] at h0
    cases hc0
    cases c <;> simp [isNilC] at h
    · subst h
      cases hc with
      | ptr hv =>
        obtain ⟨ad, rfl⟩ := hv
        exact ⟨two (equal_of fun n => by simp [Op.equalIn, run_underlying ht]) rfl rfl, (fun p q e _ => by cases e), (fun _ e => by cases e)⟩
    · subst h
      cases hc
      exact ⟨two (equal_of fun n => by simp [Op.equalIn, run_underlying ht]) rfl rfl, (fun p q e _ => by cases e), (fun _ e => by cases e)⟩
  | func =>
    obtain ⟨e1, e2, e3, ht⟩ := ht
    cases c0 <;> simp [isNilC] at h0
    cases hc0
    cases c <;> simp [isNilC] at h
    · subst h
      cases hc
      exact ⟨two (equal_of fun n => by simp [Op.equalIn, run_underlying ht]) rfl rfl, (fun p q e _ => by cases e), (fun _ e => by cases e)⟩
    · subst h
      cases hc
      exact ⟨two (equal_of fun n => by simp [Op.equalIn, run_underlying ht]) rfl rfl, (fun p q e _ => by cases e), (fun _ e => by cases e)⟩
  | iface =>
    obtain ⟨e1, ht⟩ := ht
    cases c0 <;> simp [isNilC] at h0
    cases hc0
    cases c <;> simp [isNilC] at h
    · subst h
      cases hc
      exact ⟨two (equal_of fun n => by simp [Op.equalIn, run_underlying ht]) rfl rfl, (fun p q e _ => by cases e), (fun h => absurd rfl h)⟩
    · subst h
      cases hc
      exact ⟨two (equal_of fun n => by simp [Op.equalIn, run_underlying ht]) rfl rfl, (fun p q e _ => by cases e), (fun h => absurd rfl h)⟩
  | slice =>
    obtain ⟨e1, ht⟩ := ht
    have inv : ∀ {c : C} {b : Bool}, isNilC .slice c = some b → (∃ sz rows, c = .d (.sl (.im true) sz rows) ∧ b = true) ∨ (∃ sz rows, c = .d (.sl (.im false) sz rows) ∧ b = false) ∨ (∃ pl g sz off len, c = .view pl g sz off len ∧ b = false) := by
      intro c b h
      cases c with
      | d x =>
        cases x with
        | sl t sz rows =>
          cases t with
          | im b' =>
            simp only [isNilC, Option.some.injEq] at h
            subst h
            cases b' with
            | true => exact .inl ⟨sz, rows, rfl, rfl⟩
            | false => exact .inr (.inl ⟨sz, rows, rfl, rfl⟩)
          | own => simp [isNilC] at h
        | _ => simp [isNilC] at h
      | view => simp only [isNilC, Option.some.injEq] at h; exact .inr (.inr ⟨_, _, _, _, _, rfl, h.symm⟩)
      | _ => simp [isNilC] at h
    rcases inv h0 with ⟨sz0, rows0, rfl, _⟩ | ⟨_, _, _, h1⟩ | ⟨_, _, _, _, _, _, h1⟩
    · cases hc0 with
      | d hd0 =>
        cases hd0 with
        | plain hd0 =>
          cases hd0
          rcases inv h with ⟨sz1, rows1, rfl, rfl⟩ | ⟨sz1, rows1, rfl, rfl⟩ | ⟨pl, g, sz1, off, len, rfl, rfl⟩
          · cases hc with
            | d hd =>
              cases hd with
              | plain hd =>
                cases hd
                exact ⟨two (equal_of fun n => by simp [Op.equalIn, run_underlying ht]) rfl rfl, (fun p q e _ => by cases e), (fun _ e => by cases e)⟩
          · cases hc with
            | d hd =>
              cases hd with
              | plain hd =>
                cases hd with
                | plE => exact ⟨two (equal_of fun n => by simp [Op.equalIn, run_underlying ht]) rfl rfl, (fun p q e _ => by cases e), (fun _ e => by cases e)⟩
                | pl => exact ⟨two (equal_of fun n => by simp [Op.equalIn, run_underlying ht]) rfl rfl, (fun p q e _ => by cases e), (fun _ e => by cases e)⟩
          · cases hc with
            | view hv =>
              obtain ⟨b, c, rfl, _, hb⟩ := hv
              obtain ⟨ad, rfl⟩ := Option.isSome_iff_exists.1 hb
              exact ⟨two (equal_of fun n => by simp [Op.equalIn, run_underlying ht]) rfl rfl, (fun p q e _ => by cases e), (fun _ e => by cases e)⟩
    · cases h1
    · cases h1

theorem ev_bin (R : Rel nm N S a w L) (hd : ∀ d, o.dst = some d → d < N) {x y : Operand} {X Y : Abs.X} {op : BinOp} {t yt : TypeId} {tc : TC} (hx : OpRel nm X x) (hy : OpRel nm Y y) (ho : o.op = .binOp op t x y yt) (htc : classOf P op t y = some tc)
    (hr : (evOp Cl d (.bin tc op X Y)).run S = some r) : OpsTo P a w o (Aft nm N S w L a o.dst r.1 r.2) := by
  simp only [evOp] at hr
  obtain ⟨v1, h1, hr'⟩ := Q.run_bind_some hr
  clear hr
  obtain ⟨v2, h3, hr⟩ := Q.run_bind_some hr'
  clear hr'
  obtain ⟨z, hz, h2⟩ := Q.run_ofO_some hr
  clear hr
  obtain rfl := Q.run_pure_some h2
  clear h2
  have r1 := rd_val R hx h1
  have r2 := rd_val R hy h3
  obtain ⟨htk, hif⟩ := classOf_ok htc
  clear htc
  have htc := htk
  clear htk
  have done : ∀ {v : Value}, (eqGuard op t x y (a.eval x) (a.eval y)).run P w = .ok () w → (binOp op t (a.eval x) (a.eval y)).run P w = .ok v w → RepP w L z v → OpsTo P a w o (Aft nm N S w L a o.dst (.one (.d z)) []) :=
    fun hg hb hp => opVal R hd (execOp_binOp ho hg hb) (.one (.d (.plain hp)))
  unfold binV at hz
  split at hz
  · -- numbers
    rename_i k n k' n'
    have e1 := r1.one_inv.int_inv
    have e2 := r2.one_inv.int_inv
    have hg : (eqGuard op t x y (a.eval x) (a.eval y)).run P w = .ok () w := eqGuard_plain (by rw [e1]; simp) (by rw [e1]; simp)
    split at hz
    · obtain ⟨v, g1, g2⟩ := shiftOp_run (P := P) (w := w) (L := L) (.inl rfl) (k' := k') (t := t) hz
      exact done hg (by rw [e1, e2]; exact g1) g2
    · obtain ⟨v, g1, g2⟩ := shiftOp_run (P := P) (w := w) (L := L) (.inr rfl) (k' := k') (t := t) hz
      exact done hg (by rw [e1, e2]; exact g1) g2
    · rename_i hn1 hn2
      split at hz
      · rename_i hk
        subst hk
        obtain ⟨v, g1, g2⟩ := intOp_run (P := P) (w := w) (L := L) (t := t) hz (fun e => hn1 e) (fun e => hn2 e)
        exact done hg (by rw [e1, e2]; exact g1) g2
      · cases hz
  · -- strings
    have e1 := r1.one_inv.str_inv
    have e2 := r2.one_inv.str_inv
    obtain ⟨v, g1, g2⟩ := strOp_run (P := P) (w := w) (L := L) (t := t) hz
    exact done (eqGuard_plain (by rw [e1]; simp) (by rw [e1]; simp)) (by rw [e1, e2]; exact g1) g2
  · -- truth values
    have e1 := r1.one_inv.bool_inv
    have e2 := r2.one_inv.bool_inv
    have hg : (eqGuard op t x y (a.eval x) (a.eval y)).run P w = .ok () w := eqGuard_plain (by rw [e1]; simp) (by rw [e1]; simp)
    split at hz
    · cases hz
      exact done hg (v := .bool _) (by rw [e1, e2]; simp [binOp, equal_bool htc]) .bool
    · cases hz
      exact done hg (v := .bool _) (by rw [e1, e2]; simp [binOp, equal_bool htc]) .bool
    · cases hz
  · -- structs
    rename_i cs ds
    obtain ⟨xs, e1, hl1, hc1⟩ := r1.agg_inv
    obtain ⟨ys, e2, hl2, hc2⟩ := r2.agg_inv
    split at hz
    · rename_i fl
      obtain ⟨fs, hu, hs, hgt, hf⟩ := flatStruct_inv htc
      cases hb : eqFlat fl cs ds with
      | none => simp [hb] at hz
      | some b =>
        simp only [hb, Option.map_some, Option.some.injEq] at hz
        subst hz
        have hfo : P.fieldsOf t = fs := by simp [Program.fieldsOf, hu]
        have h0 := eqFlat_run (P := P) (w := w) (n := 9998) hc1 hc2 hl1 hl2 fs.toList 0 hf (by simpa using hb) (by omega) (by omega)
        have he : (Op.equalIn 10000 t (.agg xs) (.agg ys)).run P w = .ok b w := by
          rw [run_equalIn_struct w 9999 t xs ys (by rw [hfo]; exact hu) hs, hfo]; exact h0
        refine done (v := .bool b) (by rw [e1, e2]; exact run_eqGuard_agg w _ t x y xs ys hgt) ?_ .bool
        rw [e1, e2, run_eql_struct, he]; rfl
    · rename_i fl
      obtain ⟨fs, hu, hs, hgt, hf⟩ := flatStruct_inv htc
      cases hb : eqFlat fl cs ds with
      | none => simp [hb] at hz
      | some b =>
        simp only [hb, Option.map_some, Option.some.injEq] at hz
        subst hz
        have hfo : P.fieldsOf t = fs := by simp [Program.fieldsOf, hu]
        have h0 := eqFlat_run (P := P) (w := w) (n := 9998) hc1 hc2 hl1 hl2 fs.toList 0 hf (by simpa using hb) (by omega) (by omega)
        have he : (Op.equalIn 10000 t (.agg xs) (.agg ys)).run P w = .ok b w := by
          rw [run_equalIn_struct w 9999 t xs ys (by rw [hfo]; exact hu) hs, hfo]; exact h0
        refine done (v := .bool !b) (by rw [e1, e2]; exact run_eqGuard_agg w _ t x y xs ys hgt) ?_ .bool
        rw [e1, e2, run_neq_struct, he]; rfl
    · cases hz
  · -- nil
    rename_i c c0 _ _ _
    split at hz
    · rename_i hnil
      split at hz
      · cases hb : isNilC tc c with
        | none => simp [hb] at hz
        | some b =>
          simp only [hb, Option.map_some, Option.some.injEq] at hz
          subst hz
          obtain ⟨g1, g2, g3⟩ := isNil_run (P := P) htc hnil hb r1.one_inv r2.one_inv
          exact done (v := .bool b) (eqGuard_plain g2 (fun _ hv => .inr (hif (Classical.byContradiction fun hne => g3 hne hv)))) g1.1 .bool
      · cases hb : isNilC tc c with
        | none => simp [hb] at hz
        | some b =>
          simp only [hb, Option.map_some, Option.some.injEq] at hz
          subst hz
          obtain ⟨g1, g2, g3⟩ := isNil_run (P := P) htc hnil hb r1.one_inv r2.one_inv
          exact done (v := .bool !b) (eqGuard_plain g2 (fun _ hv => .inr (hif (Classical.byContradiction fun hne => g3 hne hv)))) g1.2 .bool
      · cases hz
    · cases hz
  · cases hz
end
end Go.Abs
