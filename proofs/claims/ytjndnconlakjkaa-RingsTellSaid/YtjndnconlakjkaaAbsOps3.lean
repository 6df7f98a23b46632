/- Operations that only compute: parts, addresses, arithmetic. -/
import Derived.Test.YtjndnconlakjkaaAbsOps2
set_option linter.unusedVariables false
set_option linter.unusedSimpArgs false
namespace Go.Abs
section
variable {nm : FuncId → Option Nat} {N : Nat} {S : St} {a : Act} {w : World} {L : LabF} {P : Program} {o : Oper} {Cl : Oracle} {d : Nat} {r : V × List Wr}

theorem ev_fieldA (R : Rel nm N S a w L) (hd : ∀ d, o.dst = some d → d < N) {x : Operand} {X : Abs.X} {s : TypeId} {i : Nat} {fs : Array Field} {f : Field} {n : Nat} (hx : OpRel nm X x) (ho : o.op = .fieldAddr s x i)
    (hs : P.underlying s = some (.struct fs)) (hf : fs[i]? = some f) (hn : szOf P f.type = some n) (hn0 : n ≠ 0) (hr : (evOp Cl d (.fieldA f.offset X)).run S = some r) :
    OpsTo P a w o (Aft nm N S w L a o.dst r.1 r.2) := by
  simp only [evOp] at hr
  obtain ⟨v, h1, h2⟩ := Q.run_bind_some hr
  clear hr
  have hv := rd_val R hx h1
  have run : ∀ ad : Addr, a.eval x = .pointer (some ad) → (execOp a.eval o).run P w = .ok (.value (.pointer (some (ad.add f.offset)))) w := by
    intro ad hb
    have : (Instr.fieldAt s (a.eval x) i).run P w = .ok (.pointer (some (ad.add f.offset))) w := by
      rw [hb]
      simp [Instr.fieldAt, run_underlying hs, hf, Instr.sureAddr, fieldPlace, run_sizeOf' hn, hn0]
    simp [execOp, ho, this]
  split at h2
  · rename_i r0 g c
    obtain rfl := Q.run_pure_some h2
    cases hv.one_inv with
    | ptr hv0 hg h =>
      obtain ⟨ad, had⟩ := hv0
      refine opVal R hd (run ad had) (.one (.ptr ⟨_, rfl⟩ hg (fun he => ?_)))
      obtain ⟨B, o', hB, hb⟩ := h he
      rw [had] at hb
      simp only [Value.pointer.injEq, Option.some.injEq] at hb
      subst hb
      exact ⟨B, o', hB, by rw [add_off, Nat.add_assoc]⟩
  · rename_i cells
    obtain rfl := Q.run_pure_some h2
    have hv' := hv.one_inv
    generalize hax : a.eval x = u at hv'
    cases hv' with
    | @pp _ B o' cur e fz hL hB hp =>
      refine opVal R hd (run _ hax) ?_
      rw [add_off]
      refine .one (.pp hL hB ?_)
      intro q y hq
      rw [List.getElem?_drop] at hq
      have := hp (f.offset + q) y hq
      rwa [← Nat.add_assoc] at this
  · rename_i pl g sz j c
    obtain rfl := Q.run_pure_some h2
    cases hv.one_inv with
    | eptr hv0 hh hg h =>
      obtain ⟨ad, had⟩ := hv0
      refine opVal R hd (run ad had) (.one (.eptr ⟨_, rfl⟩ hh hg (fun he => ?_)))
      obtain ⟨B, o', hB, hb⟩ := h he
      rw [had] at hb
      simp only [Value.pointer.injEq, Option.some.injEq] at hb
      subst hb
      exact ⟨B, o', hB, by rw [add_off, Nat.add_assoc]⟩
  · cases h2

theorem RepV.agg_inv {γ : Key → Nat} {k : Key} {cs : List C} {v : Value} (h : RepV nm w L γ k (.agg cs) v) : ∃ vs : Array Value, v = .agg vs ∧ cs.length = vs.size ∧ ∀ (j : Nat) c u, cs[j]? = some c → vs[j]? = some u → RepC nm w L γ k j c u := by
  cases h with | agg hl h => exact ⟨_, rfl, hl, h⟩

theorem rd_clean (R : Rel nm N S a w L) {x : Operand} {X : Abs.X} (hx : OpRel nm X x) (hok : X.okC = true) {v : V} (hr : (rd X).run S = some v) : v.own = false := rd_own hok hr

theorem RepC.at_ {γ : Key → Nat} {k k' : Key} {j j' : Nat} {c : C} {v : Value} (h : RepC nm w L γ k j c v) (hc : c.own = false) : RepC nm w L γ k' j' c v := h.any (h.clean_of hc) k' j'

theorem ev_field (R : Rel nm N S a w L) (hd : ∀ d, o.dst = some d → d < N) {x : Operand} {X : Abs.X} {s : TypeId} {i : Nat} {fs : Array Field} {f : Field} {n : Nat} {agg : Bool} (hx : OpRel nm X x) (hok : X.okC = true) (ho : o.op = .field s x i)
    (hs : P.underlying s = some (.struct fs)) (hf : fs[i]? = some f) (hn : aggOf P f.type = some (n, agg)) (hr : (evOp Cl d (.field f.offset n agg X)).run S = some r) :
    OpsTo P a w o (Aft nm N S w L a o.dst r.1 r.2) := by
  simp only [evOp] at hr
  obtain ⟨v, h1, h2⟩ := Q.run_bind_some hr
  clear hr
  have hv := rd_val R hx h1
  have hcl := rd_own hok h1
  split at h2
  · rename_i cs
    obtain ⟨hg, h2'⟩ := Q.run_guard_some h2
    clear h2; have h2 := h2'; clear h2'
    simp only [decide_eq_true_eq] at hg
    obtain ⟨x', h4, h2⟩ := Q.run_bind_some h2
    obtain rfl := Q.run_pure_some h2
    obtain ⟨vs, hvs, hl, hc⟩ := hv.agg_inv
    let us := (vs.toList.drop f.offset).take n
    have hul : us.length = n := by simp [us]; omega
    have hm := mkV_rep (nm := nm) (w := w) (L := L) (γ := S.γ) (k := .h 0) (vs := us) h4 (by rw [hul]; simp; omega) (by
      intro j c1 v1 hc1 hv1
      have hj : j < n := by rw [← hul]; exact (List.getElem?_eq_some_iff.1 hv1).1
      simp only [us] at hv1
      rw [List.getElem?_take_of_lt hj, List.getElem?_drop] at hc1 hv1
      exact (hc (f.offset + j) c1 v1 hc1 (by simpa using hv1)).at_ (own_get hcl hc1))
    refine opVal R hd (v := wholeV agg us) ?_ hm.1
    have : (Instr.field s (a.eval x) i).run P w = .ok (wholeV agg us) w := by
      rw [hvs]
      simp only [Instr.field, Sem.run_bind, run_underlying hs, Result.andThen_ok, hf, asAgg, Sem.run_pure, part, run_isAgg hn]
      cases agg with
      | true =>
        simp only [if_true, Sem.run_bind, run_sizeOf hn, Result.andThen_ok, Sem.run_pure, wholeV]
        congr 2
        apply Array.ext'
        simp [us, List.drop_take]
      | false =>
        have hn1 : n = 1 := by have := hm.2 rfl; simp at this; omega
        subst hn1
        have hlt : f.offset < vs.size := by omega
        have : vs[f.offset]? = some vs[f.offset] := by simp [hlt]
        simp only [Bool.false_eq_true, if_false, this, Sem.run_pure, wholeV]
        congr 1
        have hd1 : vs.toList.drop f.offset = vs[f.offset] :: vs.toList.drop (f.offset + 1) := by
          rw [List.drop_eq_getElem_cons (by simpa using hlt)]; simp
        simp [us, hd1]
    simp [execOp, ho, this]
  · cases h2

theorem ev_extract (R : Rel nm N S a w L) (hd : ∀ d, o.dst = some d → d < N) {x : Operand} {X : Abs.X} {j : Nat} (hx : OpRel nm X x) (ho : o.op = .extract x j) (hr : (evOp Cl d (.extract j X)).run S = some r) :
    OpsTo P a w o (Aft nm N S w L a o.dst r.1 r.2) := by
  simp only [evOp] at hr
  obtain ⟨v, h1, h2⟩ := Q.run_bind_some hr
  clear hr
  have hv := rd_val R hx h1
  split at h2
  · rename_i vs
    obtain ⟨y, hy, h2⟩ := Q.run_ofO_some h2
    obtain rfl := Q.run_pure_some h2
    generalize hax : a.eval x = u at hv
    cases hv with
    | @tup _ us hl hcl h =>
      have hj : j < us.size := by rw [← hl]; exact (List.getElem?_eq_some_iff.1 hy).1
      refine opVal R hd (v := us[j]) ?_ (h j y us[j] hy (by simp [hj]))
      have : us[j]? = some us[j] := by simp [hj]
      simp [execOp, ho, hax, Instr.extract, this]
  · cases h2

theorem ev_index (R : Rel nm N S a w L) (hd : ∀ d, o.dst = some d → d < N) {x i : Operand} {X I : Abs.X} {t : TypeId} (hx : OpRel nm X x) (hi : OpRel nm I i) (ho : o.op = .index t x i) (ht : P.underlying t = some .string)
    (hr : (evOp Cl d (.index X I)).run S = some r) : OpsTo P a w o (Aft nm N S w L a o.dst r.1 r.2) := by
  simp only [evOp] at hr
  obtain ⟨v, h1, hr'⟩ := Q.run_bind_some hr
  clear hr; have hr := hr'; clear hr'
  have hv := rd_val R hx h1
  obtain ⟨vi, h3, hr'⟩ := Q.run_bind_some hr
  clear hr; have hr := hr'; clear hr'
  obtain ⟨n, hn, h2⟩ := Q.run_ofO_some hr
  clear hr
  obtain ⟨kk, hvi⟩ := asNat_inv (rd_val R hi h3) hn
  split at h2
  · rename_i s
    obtain ⟨b, hb, h2⟩ := Q.run_ofO_some h2
    obtain rfl := Q.run_pure_some h2
    refine opVal R hd (v := .int .u8 b.toNat) ?_ (.one (.d (.plain .int)))
    have hs := hv.one_inv.str_inv
    have hlt := (List.getElem?_eq_some_iff.1 hb).1
    have hb' : (⟨s.toArray⟩ : ByteArray)[n]? = some b := by
      have h2 : n < (⟨s.toArray⟩ : ByteArray).size := by rw [bytes_size]; exact hlt
      obtain ⟨_, he⟩ := List.getElem?_eq_some_iff.1 hb
      rw [show (⟨s.toArray⟩ : ByteArray)[n]? = some ((⟨s.toArray⟩ : ByteArray)[n]'h2) from by simp [h2]]
      rw [← he]
      rfl
    have : (Instr.index t (a.eval x) (a.eval i)).run P w = .ok (.int .u8 b.toNat) w := by
      rw [hs, hvi]
      simp [Instr.index, asIntOf, run_underlying ht, hb']
    simp [execOp, ho, this]
  · cases h2

theorem ev_mkif (R : Rel nm N S a w L) (hd : ∀ d, o.dst = some d → d < N) {x : Operand} {X : Abs.X} {t : TypeId} {dd : TypeDesc} (ho : o.op = .makeInterface t x) (ht : P.underlying t = some dd) (hdd : ∀ m, dd ≠ .interface m)
    (hr : (evOp Cl d (.mkif X)).run S = some r) : OpsTo P a w o (Aft nm N S w L a o.dst r.1 r.2) := by
  simp only [evOp] at hr
  obtain rfl := Q.run_pure_some hr
  refine opVal R hd (v := .iface t (a.eval x)) ?_ (.one .ifc)
  have : (Instr.makeInterface t (a.eval x)).run P w = .ok (.iface t (a.eval x)) w := by
    unfold Instr.makeInterface
    rw [Sem.run_bind, run_underlying ht, Result.andThen_ok]
    cases dd <;> first | rfl | exact absurd rfl (hdd _)
  simp [execOp, ho, this]

theorem ev_min (R : Rel nm N S a w L) (hd : ∀ d, o.dst = some d → d < N) {x y : Operand} {X Y : Abs.X} {ts : Array TypeId} (hx : OpRel nm X x) (hy : OpRel nm Y y) (ho : o.op = .call ⟨.builtin .min, #[x, y], ts⟩)
    (hr : (evOp Cl d (.min X Y)).run S = some r) : OpsTo P a w o (Aft nm N S w L a o.dst r.1 r.2) := by
  simp only [evOp] at hr
  obtain ⟨v, h1, hr'⟩ := Q.run_bind_some hr
  clear hr; have hr := hr'; clear hr'
  obtain ⟨v2, h3, h2⟩ := Q.run_bind_some hr
  clear hr
  split at h2
  · rename_i k m k' n
    obtain rfl := Q.run_pure_some h2
    refine opVal R hd (v := .int k (if n < m then n else m)) ?_ (.one (.d (.plain .int)))
    rw [execOp_builtin ho, show (#[x, y] : Array Operand).map a.eval = #[a.eval x, a.eval y] from by simp]
    refine run_v ?_
    show (Builtin.min_ ts _ #[a.eval x, a.eval y]).run P w = _
    rw [(rd_val R hx h1).one_inv.int_inv, (rd_val R hy h3).one_inv.int_inv]
    simp [Builtin.min_, Builtin.min2]
  · cases h2

theorem ev_max (R : Rel nm N S a w L) (hd : ∀ d, o.dst = some d → d < N) {x y : Operand} {X Y : Abs.X} {ts : Array TypeId} (hx : OpRel nm X x) (hy : OpRel nm Y y) (ho : o.op = .call ⟨.builtin .max, #[x, y], ts⟩)
    (hr : (evOp Cl d (.max X Y)).run S = some r) : OpsTo P a w o (Aft nm N S w L a o.dst r.1 r.2) := by
  simp only [evOp] at hr
  obtain ⟨v, h1, hr'⟩ := Q.run_bind_some hr
  clear hr; have hr := hr'; clear hr'
  obtain ⟨v2, h3, h2⟩ := Q.run_bind_some hr
  clear hr
  split at h2
  · rename_i k m k' n
    obtain rfl := Q.run_pure_some h2
    refine opVal R hd (v := .int k (if n > m then n else m)) ?_ (.one (.d (.plain .int)))
    rw [execOp_builtin ho, show (#[x, y] : Array Operand).map a.eval = #[a.eval x, a.eval y] from by simp]
    refine run_v ?_
    show (Builtin.max_ ts _ #[a.eval x, a.eval y]).run P w = _
    rw [(rd_val R hx h1).one_inv.int_inv, (rd_val R hy h3).one_inv.int_inv]
    simp [Builtin.max_, Builtin.max2]
  · cases h2

theorem ev_indexR (R : Rel nm N S a w L) (hd : ∀ d, o.dst = some d → d < N) {x i : Operand} {X I : Abs.X} {t e : TypeId} {k sz : Nat} (hx : OpRel nm X x) (hi : OpRel nm I i) (ho : o.op = .indexAddr t x i)
    (ht : P.underlying t = some (.array k e)) (hs : szOf P e = some sz) (hr : (evOp Cl d (.indexR k sz X I)).run S = some r) : OpsTo P a w o (Aft nm N S w L a o.dst r.1 r.2) := by
  simp only [evOp] at hr
  obtain ⟨v, h1, hr'⟩ := Q.run_bind_some hr
  clear hr; have hr := hr'; clear hr'
  have hv := rd_val R hx h1
  obtain ⟨vi, h3, hr'⟩ := Q.run_bind_some hr
  clear hr; have hr := hr'; clear hr'
  obtain ⟨n, hn, h2⟩ := Q.run_ofO_some hr
  clear hr
  obtain ⟨kk, hvi⟩ := asNat_inv (rd_val R hi h3) hn
  obtain ⟨hlt, h2'⟩ := Q.run_guard_some h2
  clear h2; have h2 := h2'; clear h2'
  simp only [decide_eq_true_eq] at hlt
  split at h2
  · rename_i r0 g c
    obtain rfl := Q.run_pure_some h2
    cases hv.one_inv with
    | ptr hv0 hg h =>
      obtain ⟨ad, had⟩ := hv0
      have : (Instr.indexAt t (a.eval x) (a.eval i)).run P w = .ok (.pointer (some (ad.add (n * sz)))) w := by
        rw [had, hvi]
        have hlt' : ¬ k ≤ n := by omega
        simp [Instr.indexAt, asIntOf, run_underlying ht, Instr.sureAddr, run_sizeOf' hs, hlt]
      refine opVal R hd (by simp [execOp, ho, this]; rfl) (.one (.ptr ⟨_, rfl⟩ hg (fun he => ?_)))
      obtain ⟨B, o', hB, hb⟩ := h he
      rw [had] at hb
      simp only [Value.pointer.injEq, Option.some.injEq] at hb
      subst hb
      exact ⟨B, o', hB, by rw [add_off, Nat.add_assoc]⟩
  · cases h2

theorem ev_indexA (R : Rel nm N S a w L) (hd : ∀ d, o.dst = some d → d < N) {x i : Operand} {X I : Abs.X} {t e : TypeId} {sz : Nat} (hx : OpRel nm X x) (hi : OpRel nm I i) (ho : o.op = .indexAddr t x i)
    (ht : P.underlying t = some (.slice e)) (hs : szOf P e = some sz) (hr : (evOp Cl d (.indexA sz X I)).run S = some r) : OpsTo P a w o (Aft nm N S w L a o.dst r.1 r.2) := by
  simp only [evOp] at hr
  obtain ⟨v, h1, hr'⟩ := Q.run_bind_some hr
  clear hr; have hr := hr'; clear hr'
  have hv := rd_val R hx h1
  obtain ⟨vi, h3, hr'⟩ := Q.run_bind_some hr
  clear hr; have hr := hr'; clear hr'
  obtain ⟨n, hn, h2⟩ := Q.run_ofO_some hr
  clear hr
  obtain ⟨kk, hvi⟩ := asNat_inv (rd_val R hi h3) hn
  have run : ∀ (ad : Addr) (len cap : Nat), a.eval x = .slice (some ad) len cap → n < len → (execOp a.eval o).run P w = .ok (.value (.pointer (some (ad.add (n * sz))))) w := by
    intro ad len cap hb hlt
    have : (Instr.indexAt t (a.eval x) (a.eval i)).run P w = .ok (.pointer (some (ad.add (n * sz)))) w := by
      rw [hb, hvi]
      simp [Instr.indexAt, asIntOf, run_underlying ht, run_sizeOf' hs, hlt]
    simp [execOp, ho, this]
  split at h2
  · cases h2
  · rename_i t' sz' rows hno
    obtain ⟨hg, h2'⟩ := Q.run_guard_some h2
    clear h2; have h2 := h2'; clear h2'
    simp only [beq_iff_eq] at hg
    subst hg
    obtain ⟨row, hrow, h2⟩ := Q.run_ofO_some h2
    obtain rfl := Q.run_pure_some h2
    have hv' := hv.one_inv
    generalize hax : a.eval x = u at hv'
    cases hv' with
    | d h =>
      cases h with
      | plain h =>
        cases h with
        | nil => simp at hrow
        | plE => simp at hrow
        | @pl sz' rows B o' cap cur e' fz val hne hsz hcapp hL hB hlen hvv hrr =>
          have hlt := (List.getElem?_eq_some_iff.1 hrow).1
          refine opVal R hd (run ⟨B, o', none⟩ rows.length cap hax hlt) ?_
          rw [add_off]
          refine .one (.pp hL hB ?_)
          intro q y hq
          have hc : cellOf rows n q = some y := cellOf_some.2 ⟨row, hrow, hq⟩
          exact ⟨val n q, hvv n q y hc, hrr n q y hc⟩
      | ownE => simp at hrow
      | own => simp at hno
  · rename_i pl g sz' off len
    obtain ⟨hg, h2'⟩ := Q.run_guard_some h2
    clear h2; have h2 := h2'; clear h2'
    simp only [Bool.and_eq_true, beq_iff_eq, decide_eq_true_eq] at hg
    obtain ⟨rfl, hlt⟩ := hg
    obtain rfl := Q.run_pure_some h2
    cases hv.one_inv with
    | view hv0 hh hgl h =>
      obtain ⟨b, c, hb, hlc, hbs⟩ := hv0
      have hbs' : b.isSome = true := hbs
      obtain ⟨ad, rfl⟩ := Option.isSome_iff_exists.1 hbs'
      refine opVal R hd (run ad len c hb hlt) (.one (.eptr ⟨_, rfl⟩ hh hgl (fun he => ?_)))
      rcases h he with ⟨h0, _⟩ | ⟨B, o', cap, cur, e', fz, hval, hsz, hL, hB, _⟩
      · omega
      · rw [hb] at hval
        simp only [Value.slice.injEq, Option.some.injEq, true_and] at hval
        obtain ⟨rfl, _⟩ := hval
        exact ⟨B, o', hL, by rw [add_off, Nat.add_mul, Nat.add_zero, Nat.add_assoc]⟩
  · cases h2
end
end Go.Abs
