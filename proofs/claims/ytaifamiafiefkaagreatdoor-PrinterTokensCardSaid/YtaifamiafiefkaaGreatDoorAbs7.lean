/- An evaluator of the model's code over plain data, and that what it answers the model does: part 8 of 11. -/
import Derived.Test.YtaifamiafiefkaaGreatDoorAbs6
import Derived.Orders
set_option linter.unusedVariables false
set_option linter.unusedSimpArgs false
namespace Go.Abs
section
section
variable {nm : FuncId → Option Nat} {N : Nat} {S S0 : St} {a : Act} {w w0 : World} {L L0 : LabF} {P : Program} {o : Oper} {Cl : Oracle} {d : Nat} {r : V × List Wr} {ws : List Wr}
abbrev mpl (i : Nat) : Place := ⟨.b (.g i) 0, 0, []⟩
theorem Rel.gsize (h : Rel nm N S a w L) (i : Nat) (hn : boxN (S.E (.r (.g i))) ≤ 1) : Rel nm N (S.wr { k := .r (.g i), v := sizeV 1 }) a w L := by
  have hst : Step w w L L S.γ (S.wr { k := .r (.g i), v := sizeV 1 }).γ :=
    ⟨fun B hB => ⟨hB, rfl⟩, St.γ_wr_le S _, fun B q o _ _ hB => ⟨hB, fun cur e fz h => ⟨cur, h, rfl⟩⟩, fun _ _ _ _ _ _ _ => rfl, fun B r o _ hB => hB⟩
  have hE : ∀ k, k ≠ .r (.g i) → (S.wr { k := .r (.g i), v := sizeV 1 }).E k = S.E k := fun k hk => by rw [St.E_wr]; simp [Ne.symm hk]
  refine ⟨h.size, h.defers, fun j => ?_, fun r c x hx hd => ?_, fun r c => ?_, fun r c hc => ?_, fun r hg hr => ?_, h.dom, h.rowInj, h.boxInj⟩
  · rw [hE _ (by simp)]
    exact (h.slot j).step hst (fun B q o hq hB => by rw [← hq, Place.at_self]; exact ⟨hB, rfl⟩)
  · rw [hE _ (by simp)] at hx
    exact (h.cell r c x hx hd).step hst (fun B q o _ hB => ⟨hB, rfl⟩) (fun B o hB => ⟨hB, fun cur e fz hc => ⟨cur, hc, rfl, rfl⟩⟩)
  · rw [hE _ (by simp)]; exact h.bone r c
  · rw [hE (.b r c) (by simp)]
    by_cases he : r = .g i
    · subst he
      rw [St.E_wr] at hc
      simp only [if_true, boxN_sizeV] at hc
      exact h.bound _ c (by omega)
    · rw [hE _ (by simpa using he)] at hc
      exact h.bound r c hc
  · have he : r ≠ .g i := by rintro rfl; cases hg
    rw [hE _ (by simpa using he)] at hr ⊢
    exact h.room r hg hr
def mapL (n i : Nat) (L : LabF) : LabF := fun B => if B = n then some (.row (mpl i) 0) else match L B with
  | some (.row q o) => if q.k = .b (.g i) 0 then none else some (.row q o)
  | x => x
theorem mapL_of {n i B : Nat} {l : Lab} (h : mapL n i L B = some l) (hn : B ≠ n) : L B = some l ∧ ∀ q o, l = .row q o → q.k ≠ .b (.g i) 0 := by
  unfold mapL at h
  rw [if_neg hn] at h
  split at h
  · rename_i q o hq
    split at h
    · cases h
    · rename_i hk
      cases h
      exact ⟨hq, fun q' o' e => by cases e; exact hk⟩
  · rename_i hx
    exact ⟨h, fun q o e => absurd (e ▸ h) (hx q o)⟩
theorem mapL_row {n i B : Nat} {q : Place} {o' : Nat} (h : L B = some (.row q o')) (hn : B ≠ n) (hk : q.k ≠ .b (.g i) 0) : mapL n i L B = some (.row q o') := by
  unfold mapL; rw [if_neg hn, h]; simp [hk]
theorem mapL_box {n i B : Nat} {q : Root} {o' : Nat} (h : L B = some (.box q o')) (hn : B ≠ n) : mapL n i L B = some (.box q o') := by
  unfold mapL; rw [if_neg hn, h]
theorem mapL_imm {n i B : Nat} (h : L B = some .imm) (hn : B ≠ n) : mapL n i L B = some .imm := by
  unfold mapL; rw [if_neg hn, h]
theorem mapL_none {n i B : Nat} (h : L B = none) (hn : B ≠ n) : mapL n i L B = none := by
  unfold mapL; rw [if_neg hn, h]
theorem Rel.mapNew (h : Rel nm N S a w L) (i : Nat) (hn : 0 < boxN (S.E (.r (.g i)))) :
    Rel nm N (S.wr { k := .b (.g i) 0, v := .one (.mp (.sl (.im false) 2 [])) }) a (w.alloc (.map #[] 0)) (mapL w.heap.size i L) ∧ Mono w (w.alloc (.map #[] 0)) L (mapL w.heap.size i L) := by
  have hlt : ∀ {B l}, L B = some l → B ≠ w.heap.size := fun {B l} hB => Nat.ne_of_lt (h.dom B l hB)
  have hheap : ∀ {B l}, L B = some l → (w.alloc (.map #[] 0)).heap[B]? = w.heap[B]? := fun hB => heap_alloc_lt w _ (hlt hB)
  have hz : (w.alloc (.map #[] 0)).heap.size = w.heap.size + 1 := by simp
  have hself : mapL w.heap.size i L w.heap.size = some (.row (mpl i) 0) := by unfold mapL; rw [if_pos rfl]
  refine ⟨h.write _ rfl h.defers (fun _ _ => rfl) ⟨fun B hB => ⟨mapL_imm hB (hlt hB), hheap hB⟩, St.γ_wr_le S _, ?_, fun B q o _ _ _ hB => hheap hB, fun B r o _ hB => mapL_box hB (hlt hB)⟩
    (fun B q o hk _ hB => ⟨mapL_row hB (hlt hB) hk, hheap hB⟩) (fun B r o _ hB => ⟨mapL_box hB (hlt hB), fun cur e fz hc => ⟨cur, (hheap hB).trans hc, rfl, fun _ _ => rfl⟩⟩) ?_ ?_ ?_ ?_, ?_⟩
  · intro B q o hq hγ hB
    refine ⟨mapL_row hB (hlt hB) (fun e => ?_), fun cur e fz hc => ⟨cur, (hheap hB).trans hc, rfl⟩⟩
    rw [St.γ_wr, e] at hγ
    simp at hγ
  · exact ⟨_, rfl, fun _ => ⟨hn, .map (some w.heap.size), .mp ⟨w.heap.size, #[], 0, rfl, hself, heap_alloc_self w _, false, [], [], rfl, rfl, rfl⟩⟩⟩
  · intro B l hB
    rw [hz]
    by_cases he : B = w.heap.size
    · omega
    · exact Nat.lt_succ_of_lt (h.dom B l (mapL_of hB he).1)
  · intro B B' pl o o' h1 h2
    by_cases he : B = w.heap.size
    · by_cases he' : B' = w.heap.size
      · rw [he, he']
      · rw [he, hself] at h1
        simp only [Option.some.injEq, Lab.row.injEq] at h1
        exact absurd (by rw [← h1.1]) ((mapL_of h2 he').2 _ _ rfl)
    · by_cases he' : B' = w.heap.size
      · rw [he', hself] at h2
        simp only [Option.some.injEq, Lab.row.injEq] at h2
        exact absurd (by rw [← h2.1]) ((mapL_of h1 he).2 _ _ rfl)
      · exact h.rowInj B B' pl o o' (mapL_of h1 he).1 (mapL_of h2 he').1
  · intro B B' q o o' h1 h2
    by_cases he : B = w.heap.size
    · rw [he, hself] at h1; cases h1
    · by_cases he' : B' = w.heap.size
      · rw [he', hself] at h2; cases h2
      · exact h.boxInj B B' q o o' (mapL_of h1 he).1 (mapL_of h2 he').1
  · exact ⟨rfl, rfl, rfl, by rw [hz]; omega, fun B hB => ⟨mapL_imm hB (hlt hB), hheap hB⟩, fun B hl hB => ⟨mapL_none hB (by omega), heap_alloc_lt w _ (by omega)⟩, fun B j o hB => mapL_box hB (hlt hB)⟩
theorem ev_mkmap (R : Rel nm N S a w L) (hd : ∀ d, o.dst = some d → d < N) {t : TypeId} (ho : o.op = .makeMap t none) (hr : (evOp Cl d .mkmap).run S = some r) : OpsTo P a w o (Aft nm N S w L a o.dst r.1 r.2) := by
  simp only [evOp] at hr
  obtain ⟨hg, h1⟩ := Q.run_guard_some (Q.run_at_some (Q.run_at_some hr))
  obtain rfl := Q.run_pure_some h1
  have R1 := R.gsize d (by simpa [St.E] using hg)
  obtain ⟨R2, hm⟩ := R1.mapNew d (by rw [St.E_wr]; simp [boxN_sizeV])
  refine .val (v := .map (some w.heap.size)) (w' := w.alloc (.map #[] 0)) ?_ (Rel.aft (ws := [{ k := .b (.g d) 0, v := .one (.mp (.sl (.im false) 2 [])) }, { k := .r (.g d), v := sizeV 1 }]) R2 hm hd (m := 0)
    (.one (.mref ⟨_, rfl⟩ ?_ (fun _ => ⟨w.heap.size, by unfold mapL; rw [if_pos rfl], rfl⟩))))
  · have : (Instr.makeMap t none).run P w = .ok (.map (some w.heap.size)) (w.alloc (.map #[] 0)) := by
      simp [Instr.makeMap, newObj]
      rfl
    simp [execOp, ho, this]
  · simp only [St.wrs, St.γ_wr]
    simp [St.γ]
theorem Rel.mapSet (h : Rel nm N S a w L) {i B : Nat} {es es' : Array MapEntry} {ck ck' : Nat} {x' : D} {w' : World} (hL : L B = some (.row (mpl i) 0)) (hB : w.heap[B]? = some (.map es ck)) (hb : 0 < boxN (S.E (.r (.g i)))) (hx : MapRows x' es')
    (hw1 : w'.heap[B]? = some (.map es' ck')) (ho : ∀ B', B' ≠ B → w'.heap[B']? = w.heap[B']?) (hsz : w.heap.size ≤ w'.heap.size) (hmo : w'.os = w.os ∧ w'.tape = w.tape ∧ w'.output = w.output) :
    Rel nm N (S.wrs [{ k := .b (.g i) 0, v := .one (.mp x'), keep := true }, { k := .a (.b (.g i) 0), v := V.dead }]) a w' L ∧ Mono w w' L L := by
  have hne : ∀ {B' l}, L B' = some l → l ≠ .row (mpl i) 0 → w'.heap[B']? = w.heap[B']? := by
    intro B' l hl hn
    refine ho B' (fun e => ?_)
    rw [e, hL] at hl
    exact hn (by simpa using hl.symm)
  have hE : ∀ k, (∀ k', k ≠ .a k') → k ≠ .b (.g i) 0 → (S.wrs [{ k := .b (.g i) 0, v := .one (.mp x'), keep := true }, { k := .a (.b (.g i) 0), v := V.dead }]).E k = S.E k := by
    intro k h1 h2
    simp only [St.wrs, St.E_wr]
    rw [if_neg (Ne.symm h2), if_neg (Ne.symm (h1 _))]
  have hEm : (S.wrs [{ k := .b (.g i) 0, v := .one (.mp x'), keep := true }, { k := .a (.b (.g i) 0), v := V.dead }]).E (.b (.g i) 0) = .one (.mp x') := by
    simp only [St.wrs, St.E_wr, if_true]
  have hγ : ∀ k, (S.wrs [{ k := .b (.g i) 0, v := .one (.mp x'), keep := true }, { k := .a (.b (.g i) 0), v := V.dead }]).γ k = if k = .a (.b (.g i) 0) then S.γ k + 1 else S.γ k := by
    intro k
    simp only [St.wrs, St.γ_wr]
    by_cases h1 : Key.b (.g i) 0 = k
    · subst h1; simp
    · by_cases h2 : k = .a (.b (.g i) 0)
      · subst h2; simp
      · simp [h1, h2, Ne.symm h2]
  generalize St.wrs S [{ k := .b (.g i) 0, v := .one (.mp x'), keep := true }, { k := .a (.b (.g i) 0), v := V.dead }] = S' at *
  have hst : Step w w' L L S.γ S'.γ := by
    refine ⟨fun B' hB' => ⟨hB', hne hB' (by simp)⟩, fun k => ?_, ?_, ?_, fun _ _ _ _ hB' => hB'⟩
    · rw [hγ]; split <;> omega
    · intro B' q o hq _ hl
      refine ⟨hl, fun cur e fz hc => ?_⟩
      by_cases he : B' = B
      · rw [he, hB] at hc; cases hc
      · exact ⟨cur, (ho B' he).trans hc, rfl⟩
    · intro B' q o hq _ hγa hl
      refine hne hl (fun e => ?_)
      simp only [Lab.row.injEq] at e
      rw [hγ, e.1, if_pos rfl] at hγa
      omega
  have hoth : ∀ {B' q o}, q.k ≠ .b (.g i) 0 → L B' = some (.row q o) → w'.heap[B']? = w.heap[B']? := fun hq hl => hne hl (fun e => by simp only [Lab.row.injEq] at e; exact hq (by rw [e.1]))
  refine ⟨⟨h.size, h.defers, fun j => ?_, fun r c y hy hyd => ?_, fun r c => ?_, fun r c hc => ?_, fun r hg hr => ?_, fun B' l hl => ?_, h.rowInj, h.boxInj⟩, ?_⟩
  · rw [hE _ (by simp) (by simp)]
    exact (h.slot j).step hst (fun B' q o hq hl => by rw [← hq, Place.at_self]; exact ⟨hl, hoth (by rw [hq]; simp) hl⟩)
  · by_cases he : Key.b r c = .b (.g i) 0
    · rw [he, hEm] at hy
      cases hy
      simp only [Key.b.injEq] at he
      obtain ⟨rfl, rfl⟩ := he
      exact ⟨.map (some B), .mp ⟨B, es', ck', rfl, hL, hw1, hx⟩⟩
    · rw [hE _ (by simp) he] at hy
      exact (h.cell r c y hy hyd).step hst (fun B' q o hq hl => ⟨hl, hoth (by rw [hq]; exact he) hl⟩) (fun B' o hl => ⟨hl, fun cur e fz hc => ⟨cur, (hne hl (by simp)).trans hc, rfl, rfl⟩⟩)
  · by_cases he : Key.b r c = .b (.g i) 0
    · rw [he, hEm]; exact ⟨_, rfl⟩
    · rw [hE _ (by simp) he]; exact h.bone r c
  · rw [hE (.r r) (by simp) (by simp)] at hc
    by_cases he : Key.b r c = .b (.g i) 0
    · simp only [Key.b.injEq] at he
      obtain ⟨rfl, rfl⟩ := he
      omega
    · rw [hE _ (by simp) he]; exact h.bound r c hc
  · rw [hE (.r r) (by simp) (by simp)] at hr ⊢
    obtain ⟨B', o, cur, e, fz, h1, h2, h3, h4⟩ := h.room r hg hr
    exact ⟨B', o, cur, e, fz, h1, (hne h1 (by simp)).trans h2, h3, h4⟩
  · exact Nat.lt_of_lt_of_le (h.dom B' l hl) hsz
  · exact ⟨hmo.1, hmo.2.1, hmo.2.2, hsz, fun B' hB' => ⟨hB', hne hB' (by simp)⟩, fun B' _ hl => ⟨hl, ho B' (fun e => by rw [e, hL] at hl; cases hl)⟩, fun _ _ _ hl => hl⟩
theorem Rel.mapAt (R : Rel nm N S a w L) {i g : Nat} {k : Key} {j : Nat} {v : Value} {x : D} (hv : RepC nm w L S.γ k j (.mref i g) v) (hE : (S.get (.b (.g i) 0)).v = .one (.mp x)) (hg : (S.get (.b (.g i) 0)).g = g) :
    ∃ B es ck, v = .map (some B) ∧ L B = some (.row (mpl i) 0) ∧ w.heap[B]? = some (.map es ck) ∧ MapRows x es ∧ 0 < boxN (S.E (.r (.g i))) := by
  cases hv with
  | mref hv0 hgl h =>
    obtain ⟨B, h1, h2⟩ := h hg.symm
    obtain ⟨u, hu⟩ := R.cell (.g i) 0 (.mp x) hE (by simp)
    cases hu with
    | mp h3 =>
      obtain ⟨B', es, ck, _, g1, g2, g3⟩ := h3
      have hbb := R.rowInj B B' _ _ _ h1 g1
      subst hbb
      refine ⟨B, es, ck, h2, h1, g2, g3, ?_⟩
      rcases Nat.eq_zero_or_pos (boxN (S.E (.r (.g i)))) with h0 | h0
      · have := R.bound (.g i) 0 (by omega)
        unfold St.E at this
        rw [hE] at this; cases this
      · exact h0
theorem isStrD_inv {t : Option TypeDesc} (h : isStrD t = true) : t = some .string := by
  unfold isStrD at h; split at h
  · rfl
  · cases h
theorem zeroB_inv {e : TypeId} (h : zeroB P e = true) : ∃ i, P.info? e = some i ∧ i.zero = some (.bool false) := by
  unfold zeroB at h
  split at h
  · rename_i i hi
    split at h
    · exact ⟨i, hi, by assumption⟩
    · cases h
  · cases h
theorem ba_eq {s t : List UInt8} : ((⟨s.toArray⟩ : ByteArray) == ⟨t.toArray⟩) = (s == t) := by
  show (s.toArray == t.toArray) = _
  simp
theorem findNow_rows {s : List UInt8} : ∀ (l : List (List UInt8 × Bool)) (es : List MapEntry) (n : Nat), es.map (fun e => (e.key, e.val)) = l.map (fun p => (Value.string ⟨p.1.toArray⟩, Value.bool p.2)) →
    ∃ x, Instr.findNow .string (.string ⟨s.toArray⟩) es n = some x ∧ (match x with
      | some (m, v) => n ≤ m ∧ v = .bool (mgetB (l.map fun p => [.str p.1, .bool p.2]) s) ∧ m - n < l.length ∧ (∃ e, es[m - n]? = some e ∧ e.key = .string ⟨s.toArray⟩) ∧
          ∀ b, mputB (l.map fun p => [.str p.1, .bool p.2]) s b = (l.set (m - n) (s, b)).map fun p => [.str p.1, .bool p.2]
      | none => mgetB (l.map fun p => [.str p.1, .bool p.2]) s = false ∧ ∀ b, mputB (l.map fun p => [.str p.1, .bool p.2]) s b = (l ++ [(s, b)]).map fun p => [.str p.1, .bool p.2])
  | [], es, n, h => by
    have : es = [] := by simpa using h
    subst this
    exact ⟨none, rfl, rfl, fun b => rfl⟩
  | p :: l, es, n, h => by
    cases es with
    | nil => cases h
    | cons e es =>
      simp only [List.map_cons, List.cons.injEq, Prod.mk.injEq] at h
      obtain ⟨⟨h1, h2⟩, h3⟩ := h
      have hnow : Instr.findNow .string (.string ⟨s.toArray⟩) (e :: es) n = if (s == p.1) = true then some (some (n, e.val)) else Instr.findNow .string (.string ⟨s.toArray⟩) es (n + 1) := by
        simp only [Instr.findNow, h1, Instr.sameNow, ba_eq]
        cases hb : s == p.1 <;> rfl
      rw [hnow]
      by_cases he : s = p.1
      · subst he
        refine ⟨some (n, e.val), by simp, Nat.le_refl n, by rw [h2]; simp [mgetB], by simp, ⟨e, by simp, h1⟩, fun b => by simp [mputB]⟩
      · have hbf : (s == p.1) = false := beq_eq_false_iff_ne.2 he
        obtain ⟨x, g1, g2⟩ := findNow_rows (s := s) l es (n + 1) h3
        refine ⟨x, by simp [hbf, g1], ?_⟩
        have hg : mgetB ([D.str p.1, D.bool p.2] :: l.map fun p => [.str p.1, .bool p.2]) s = mgetB (l.map fun p => [.str p.1, .bool p.2]) s := by simp [mgetB, hbf]
        have hp : ∀ b, mputB ([D.str p.1, D.bool p.2] :: l.map fun p => [.str p.1, .bool p.2]) s b = [D.str p.1, D.bool p.2] :: mputB (l.map fun p => [.str p.1, .bool p.2]) s b := fun b => by simp [mputB, hbf]
        simp only [List.map_cons]
        cases x with
        | none =>
          obtain ⟨k1, k2⟩ := g2
          exact ⟨by rw [hg]; exact k1, fun b => by rw [hp, k2]; rfl⟩
        | some y =>
          obtain ⟨m, v⟩ := y
          obtain ⟨k1, k2, k3, ⟨e', k4, k5⟩, k6⟩ := g2
          have hm : m - n = (m - (n + 1)) + 1 := by omega
          refine ⟨by omega, by rw [hg]; exact k2, by simp only [List.length_cons]; omega, ⟨e', by rw [hm]; simpa using k4, k5⟩, fun b => ?_⟩
          rw [hp, k6, hm]; rfl
theorem mcheck' {t : TypeId} {P : Program} {w : World} {b : Bool} {s : ByteArray} (n : Nat) (h : P.underlying t = some .string) : (Instr.checkKey b (n + 1) t (.string s)).run P w = .ok () w := by
  simp [Instr.checkKey, run_underlying h]
theorem mcheck {t : TypeId} {P : Program} {w : World} {b : Bool} {s : ByteArray} (h : P.underlying t = some .string) : (Instr.checkKey b 10000 t (.string s)).run P w = .ok () w := mcheck' 9999 h
theorem ev_mget (R : Rel nm N S a w L) (hd : ∀ d, o.dst = some d → d < N) {x y : Operand} {X Y : Abs.X} {t kt e : TypeId} (hx : OpRel nm X x) (hy : OpRel nm Y y) (ho : o.op = .lookup t x y false)
    (ht : P.underlying t = some (.map kt e)) (hk : P.underlying kt = some .string) (hz : zeroB P e = true) (hr : (evOp Cl d (.mget X Y)).run S = some r) : OpsTo P a w o (Aft nm N S w L a o.dst r.1 r.2) := by
  simp only [evOp] at hr
  obtain ⟨v, h1, h2⟩ := Q.run_bind_some hr
  obtain ⟨u, h3, h4⟩ := Q.run_bind_some h2
  have hv := rd_val R hx h1
  have hu := rd_val R hy h3
  clear hr h2
  split at h4
  · rename_i i g s
    have h5 := Q.run_at_some h4
    split at h5
    · rename_i tg sz rows hE
      obtain ⟨hg, h6⟩ := Q.run_guard_some h5
      obtain rfl := Q.run_pure_some h6
      obtain ⟨B, es, ck, g1, g2, g3, ⟨tb, rows', l, g4, g5, g6⟩, g7⟩ := R.mapAt hv.one_inv hE (by simpa using hg)
      simp only [D.sl.injEq] at g4
      obtain ⟨_, _, rfl⟩ := g4
      subst g5
      have hs := hu.one_inv.str_inv
      obtain ⟨f, k1, k2⟩ := findNow_rows (s := s) l es.toList 0 g6
      have hfk : (Instr.findKey kt (.string ⟨s.toArray⟩) es.toList).run P w = .ok f w := by
        simp [Instr.findKey, run_underlying hk, k1]
      refine opVal R hd (v := .bool (mgetB (l.map fun p => [.str p.1, .bool p.2]) s)) ?_ (.one (.d (.plain .bool)))
      have : (Instr.lookup t (a.eval x) (a.eval y) false).run P w = .ok (.bool (mgetB (l.map fun p => [.str p.1, .bool p.2]) s)) w := by
        rw [g1, hs]
        simp only [Instr.lookup]
        cases f with
        | some f =>
          obtain ⟨m, fv⟩ := f
          simp only at k2
          simp [run_underlying ht, getObj, Sem.run, g3, mcheck hk, hfk, k2.2.1]
        | none =>
          simp only at k2
          obtain ⟨i, hi, hz'⟩ := zeroB_inv hz
          simp [run_underlying ht, getObj, Sem.run, g3, mcheck hk, hfk, k2.1, zeroValue, typeInfo, hi, hz']
      simp [execOp, ho, this]
    · cases h5
  · cases h4
theorem map_modify {α β : Type} {f : α → α} {g : α → β} {y : β} : ∀ (l : List α) (i : Nat), (∀ x, g (f x) = y) → (l.modify i f).map g = (l.map g).set i y
  | [], i, h => by simp
  | x :: l, 0, h => by simp [h]
  | x :: l, i + 1, h => by simp [map_modify l i h]
theorem ev_mset (R : Rel nm N S a w L) (hd : ∀ d, o.dst = some d → d < N) {x y z : Operand} {X Y Z : Abs.X} {t kt e : TypeId} (hx : OpRel nm X x) (hy : OpRel nm Y y) (hz : OpRel nm Z z) (ho : o.op = .mapUpdate t x y z)
    (ht : P.underlying t = some (.map kt e)) (hk : P.underlying kt = some .string) (hr : (evOp Cl d (.mset X Y Z)).run S = some r) : OpsTo P a w o (Aft nm N S w L a o.dst r.1 r.2) := by
  simp only [evOp] at hr
  obtain ⟨v, h1, h2⟩ := Q.run_bind_some hr
  obtain ⟨u, h3, h4⟩ := Q.run_bind_some h2
  obtain ⟨q, h5, h6⟩ := Q.run_bind_some h4
  have hv := rd_val R hx h1
  have hu := rd_val R hy h3
  have hq := rd_val R hz h5
  clear hr h2 h4
  split at h6
  · rename_i i g s b
    have h7 := Q.run_at_some h6
    split at h7
    · rename_i tg sz rows hE
      obtain ⟨hg, h8⟩ := Q.run_guard_some h7
      obtain rfl := Q.run_pure_some h8
      obtain ⟨B, es, ck, g1, g2, g3, ⟨tb, rows', l, g4, g5, g6⟩, g7⟩ := R.mapAt hv.one_inv hE (by simpa using hg)
      simp only [D.sl.injEq] at g4
      obtain ⟨_, _, rfl⟩ := g4
      subst g5
      have hs := hu.one_inv.str_inv
      have hb := RepC.bool_inv hq.one_inv
      obtain ⟨f, k1, k2⟩ := findNow_rows (s := s) l es.toList 0 g6
      have hfk : (Instr.findKey kt (.string ⟨s.toArray⟩) es.toList).run P w = .ok f w := by
        simp [Instr.findKey, run_underlying hk, k1]
      have hBlt : B < w.heap.size := (Array.getElem?_eq_some_iff.1 g3).1
      have fin : ∀ es' ck', MapRows (.sl (.im false) 2 (mputB (l.map fun p => [.str p.1, .bool p.2]) s b)) es' →
          (Instr.mapUpdate t (a.eval x) (a.eval y) (a.eval z)).run P w = .ok () { w with heap := w.heap.setIfInBounds B (.map es' ck') } →
          OpsTo P a w o (Aft nm N S w L a o.dst (.tup []) [{ k := .b (.g i) 0, v := .one (.mp (.sl (.im false) 2 (mputB (l.map fun p => [.str p.1, .bool p.2]) s b))), keep := true }, { k := .a (.b (.g i) 0), v := V.dead }]) := by
        intro es' ck' hm hrun
        obtain ⟨R', hm'⟩ := R.mapSet (w' := { w with heap := w.heap.setIfInBounds B (.map es' ck') }) (ck' := ck') g2 g3 g7 hm (by simp [hBlt]) (fun B' hne => by simp [Array.getElem?_setIfInBounds, Ne.symm hne]) (by simp) ⟨rfl, rfl, rfl⟩
        refine .skip ?_ (R'.aft hm' hd (m := 0) (.tup (us := #[]) rfl rfl (fun i x u h => by simp at h)))
        simp [execOp, ho, hrun]
      cases f with
      | some f =>
        obtain ⟨m, fv⟩ := f
        simp only [Nat.sub_zero] at k2
        obtain ⟨k3, k4, k5, ⟨e', k6, k7⟩, k8⟩ := k2
        have k6' : es[m]? = some e' := by simpa using k6
        refine fin (es.modify m fun e => { e with key := .string ⟨s.toArray⟩, val := .bool b }) ck ⟨false, _, _, rfl, k8 b, ?_⟩ ?_
        · rw [Array.toList_modify, map_modify (g := fun e : MapEntry => (e.key, e.val)) (y := (Value.string ⟨s.toArray⟩, Value.bool b)) _ _ (fun _ => rfl), g6, List.map_set]
        · have hstay : (Instr.keyThatStays (.string ⟨s.toArray⟩) (.string ⟨s.toArray⟩)).run P w = .ok (.string ⟨s.toArray⟩) w := by
            simp [Instr.keyThatStays, Instr.sameBits, ba_eq]
          rw [g1, hs, hb]
          simp [Instr.mapUpdate, run_underlying ht, getObj, setObj, Sem.run, g3, mcheck hk, hfk, k6', k7, hstay]
      | none =>
        simp only at k2
        refine fin (es.push { key := .string ⟨s.toArray⟩, val := .bool b, born := ck }) (ck + 1) ⟨false, _, _, rfl, k2.2 b, ?_⟩ ?_
        · simp [g6]
        · rw [g1, hs, hb]
          simp [Instr.mapUpdate, run_underlying ht, getObj, setObj, Sem.run, g3, mcheck hk, hfk]
    · cases h7
  · cases h6
end
end
section
section
variable {nm : FuncId → Option Nat} {N : Nat} {S S0 : St} {a : Act} {w w0 : World} {L L0 : LabF} {P : Program} {o : Oper} {Cl : Oracle} {d : Nat} {r : V × List Wr} {ws : List Wr}
theorem fill_seq : ∀ (vs : List (Nat × Value)) (cells : Array Value) (k : Nat), (∀ (j : Nat) p, vs[j]? = some p → p.1 = k + j ∧ p.2.cells = #[p.2]) → k + vs.length = cells.size →
    ∃ cells', Instr.fill (fun i => some (i * 1, 1)) cells vs = some cells' ∧ cells'.size = cells.size ∧ (∀ i, i < k → cells'[i]? = cells[i]?) ∧ ∀ (j : Nat) p, vs[j]? = some p → cells'[k + j]? = some p.2
  | [], cells, k, _, _ => ⟨cells, rfl, rfl, fun i _ => rfl, fun j p h => by simp at h⟩
  | (i, v) :: t, cells, k, h, hl => by
    obtain ⟨h1, h2⟩ := h 0 (i, v) rfl
    simp only [Nat.add_zero] at h1
    subst h1
    simp only [List.length_cons] at hl
    have h2 : v.cells = #[v] := h2
    obtain ⟨c', g1, g2, g3, g4⟩ := fill_seq t (cells.setIfInBounds (i * 1 + 0) v) (i + 1) (fun j p hj => by
      obtain ⟨q1, q2⟩ := h (j + 1) p (by simpa using hj)
      exact ⟨by omega, q2⟩) (by simp; omega)
    refine ⟨c', ?_, by rw [g2]; simp, fun j hj => ?_, fun j p hj => ?_⟩
    · simp only [Instr.fill, h2]
      rw [if_neg (by simp; omega)]
      simpa using g1
    · rw [g3 j (by omega), Array.getElem?_setIfInBounds_ne (by omega)]
    · cases j with
      | zero =>
        simp only [List.getElem?_cons_zero, Option.some.injEq] at hj
        subst hj
        rw [Nat.add_zero, g3 i (by omega), Nat.mul_one, Nat.add_zero, Array.getElem?_setIfInBounds_self_of_lt (by omega)]
      | succ j =>
        have := g4 j p (by simpa using hj)
        rw [← this]
        congr 1
        omega
theorem elemsOk_get : ∀ {ps : List (Nat × Abs.X)} {qs : List (Nat × Operand)}, ElemsOk nm ps qs → ps.length = qs.length ∧ ∀ (j : Nat) X x, ps[j]? = some X → qs[j]? = some x → X.1 = x.1 ∧ OpRel nm X.2 x.2 ∧ X.2.okC = true
  | [], [], _ => ⟨rfl, fun j X x h => by simp at h⟩
  | (i, X) :: t, (i', x) :: t', h => by
    obtain ⟨h1, h2, h3, h4⟩ := h
    obtain ⟨g1, g2⟩ := elemsOk_get h4
    refine ⟨by simp [g1], fun j Y y hY hy => ?_⟩
    cases j with
    | zero =>
      simp only [List.getElem?_cons_zero, Option.some.injEq] at hY hy
      subst hY; subst hy
      exact ⟨h1, h2, h3⟩
    | succ j => exact g2 j Y y (by simpa using hY) (by simpa using hy)
  | [], _ :: _, h => h.elim
  | (_, _) :: _, [], h => h.elim
theorem isF_val {γ : Key → Nat} {k : Key} {j : Nat} {c : C} {v : Value} (h : RepC nm w L γ k j c v) (hf : c.isF = true) : v.cells = #[v] := by
  cases h with
  | fn => rfl
  | fns val hf' =>
    have := isFn_lt hf
    rcases hf' with ⟨h, _⟩ | ⟨h, _⟩ <;> exact absurd this (by omega)
  | _ => cases hf
theorem ev_fslice (R : Rel nm N S a w L) (hH : NoH L) (hd : ∀ d, o.dst = some d → d < N) {t e : TypeId} {len : Nat} {parts : Array (Nat × Operand)} {zs : List C} {ps : List (Nat × Abs.X)} (ho : o.op = .buildSlice t len parts) (ht : P.underlying t = some (.slice e)) (hz : zeroC P e = some zs) (hz1 : zs.length = 1)
    (hsmall : len ≤ 2 ^ 24) (hidx : ps.map (·.1) = List.range len) (hp : ElemsOk nm ps parts.toList)
    (hr : (evOp Cl d (.fslice (ps.map (·.2)))).run S = some r) : OpsTo P a w o (Aft nm N S w L a o.dst r.1 r.2) := by
  simp only [evOp] at hr
  obtain ⟨⟨cs, ws1⟩, h1, h2⟩ := Q.run_bind_some hr
  clear hr
  obtain ⟨hf, h2⟩ := Q.run_guard_some h2
  obtain rfl := Q.run_pure_some h2
  obtain ⟨i, z, k1, k2, k3, k4, k5⟩ := zeroC_inv hz
  obtain ⟨e1, e2⟩ := elemsOk_get hp
  have hpl : ps.length = len := by have := congrArg List.length hidx; simpa using this
  obtain ⟨L1, O1, hl1, hc1, R1⟩ := fnCells_rep R (ps.map (·.2)) (parts.toList.map (·.2)) (Mid.init R) (by simpa using e1) (fun j X x hX hx => by
    rw [List.getElem?_map] at hX hx
    cases hX' : ps[j]? with
    | none => simp [hX'] at hX
    | some X' =>
      cases hx' : parts.toList[j]? with
      | none => rw [hx'] at hx; simp at hx
      | some x' =>
        rw [hX'] at hX; rw [hx'] at hx
        simp only [Option.map_some, Option.some.injEq] at hX hx
        subst hX; subst hx
        exact (e2 j X' x' hX' hx').2) h1
  have hl1' : cs.length = len := by have : cs.length = (ps.map (·.2)).length := hl1; rw [this, List.length_map, hpl]
  have hval : ∀ (j : Nat) (p : Nat × Value), (parts.toList.map fun p => (p.1, a.eval p.2))[j]? = some p → p.1 = 0 + j ∧ p.2.cells = #[p.2] := by
    intro j p hj
    rw [List.getElem?_map] at hj
    cases hx' : parts.toList[j]? with
    | none => rw [hx'] at hj; simp at hj
    | some x' =>
      rw [hx'] at hj
      simp only [Option.map_some, Option.some.injEq] at hj
      subst hj
      have hjl : j < ps.length := by rw [e1]; exact (List.getElem?_eq_some_iff.1 hx').1
      have hX' : ps[j]? = some ps[j] := List.getElem?_eq_getElem hjl
      have q1 := (e2 j _ x' hX' hx').1
      have q2 : (ps.map (·.1))[j]? = some ps[j].1 := by rw [List.getElem?_map, hX']; rfl
      rw [hidx, List.getElem?_range (by omega)] at q2
      simp only [Option.some.injEq] at q2
      have hc : cs[j]? = some (cs[j]'(by omega)) := List.getElem?_eq_getElem (by omega)
      have hr := R1 j _ x'.2 hc (by rw [List.getElem?_map, hx']; rfl)
      exact ⟨by show x'.1 = 0 + j; omega, isF_val hr (List.all_eq_true.1 hf _ (List.getElem_mem ..))⟩
  have hpsz : parts.toList.length = len := by omega
  obtain ⟨c', g1, g2, g3, g4⟩ := fill_seq (parts.toList.map fun p => (p.1, a.eval p.2)) (madeCells z.cells (len * 1)) 0 hval (by rw [size_madeCells, List.length_map]; omega)
  obtain ⟨hR, hM, hst⟩ := O1.mid.rel.newImm c' e
  have hi : i.size = 1 := by omega
  have run : (execOp a.eval o).run P w = .ok (.value (.slice (some ⟨w.heap.size, 0, none⟩) len len)) (w.alloc (.cells c' e)) := by
    have : (Instr.buildSlice t len (parts.map fun (i, x) => (i, a.eval x))).run P w = .ok (.slice (some ⟨w.heap.size, 0, none⟩) len len) (w.alloc (.cells c' e)) := by
      have hpe : (parts.map fun (i, x) => (i, a.eval x)).toList = parts.toList.map fun p => (p.1, a.eval p.2) := by simp
      simp only [Nat.mul_one] at g1
      unfold Instr.buildSlice
      simp only [Sem.run_bind, run_underlying ht, Result.andThen_ok, sizeOf, typeInfo, run_program, k1, Sem.run_pure, hi, Nat.mul_one]
      have hgt : ¬ (len > 2 ^ 24) := by omega
      by_cases h0 : len = 0
      · have hm0 : madeCells z.cells len = #[] := by rw [h0]; simp [madeCells]
        rw [hm0] at g1
        simp only [hgt, if_false, h0, if_true, Sem.run_pure, Result.andThen_ok, Sem.run_bind]
        simp only [Array.range_zero', hpe]
        simp [g1, newRow]
      · simp only [hgt, if_false, h0, Sem.run_bind, zeroValue, typeInfo, run_program, k1, k2, Result.andThen_ok, Sem.run_pure]
        have hmade : ((Array.range len).map fun x => z.cells[x % z.cells.size]!) = madeCells z.cells len := rfl
        simp [hpe, hmade, g1, newRow]
    simp [execOp, ho, this]
  refine .val (v := .slice (some ⟨w.heap.size, 0, none⟩) len len) (w' := w.alloc (.cells c' e)) run (hR.aft (O1.mid.mono.trans hM) hd (m := 0) (.one ?_))
  refine .fns (B := w.heap.size) (o := 0) (cap := len) (cur := c') (e := e) (fz := (0, 0)) (fun j => c'.getD j undef) (.inl ⟨rfl, by rw [hl1'], Nat.le_of_eq hl1'⟩) (LabF.put_same _ _ _) (heap_alloc_self w _) hc1 ?_ ?_
  · intro j hj
    have hj : j < cs.length := hj
    have hj' : j < c'.size := by rw [g2, size_madeCells]; omega
    rw [Nat.zero_add]
    simp [Array.getD_eq_getD_getElem?, hj']
  · intro j x hx
    have hjl : j < len := by rw [← hl1']; exact (List.getElem?_eq_some_iff.1 hx).1
    have hx' : parts.toList[j]? = some (parts.toList[j]'(by omega)) := List.getElem?_eq_getElem (by omega)
    have hr := R1 j x _ hx (by rw [List.getElem?_map, hx']; rfl)
    have hv := g4 j (_, a.eval (parts.toList[j]'(by omega)).2) (by rw [List.getElem?_map, hx']; rfl)
    rw [Nat.zero_add] at hv
    have : c'.getD j undef = a.eval (parts.toList[j]'(by omega)).2 := by simp [Array.getD_eq_getD_getElem?, hv]
    rw [this]
    exact hr.stepClean hst (cleanL_get hc1 hx) _ _
end
end
section
def GI (G : Nat → Option Obj) (w : World) (L : LabF) : Prop := ∀ B c, G B = some c → L B = some .imm ∧ w.heap[B]? = some c
theorem GI.mono {G : Nat → Option Obj} {w w' : World} {L L' : LabF} (h : GI G w L) (m : Mono w w' L L') : GI G w' L' :=
  fun B c hB => ⟨(m.imm B (h B c hB).1).1, (m.imm B (h B c hB).1).2.trans (h B c hB).2⟩
theorem GI.none (w : World) (L : LabF) : GI (fun _ => Option.none) w L := fun _ _ h => by cases h
section
variable {nm : FuncId → Option Nat} {G : Nat → Option Obj} {N : Nat} {S : St} {a : Act} {w : World} {L : LabF} {P : Program} {o : Oper} {Cl : Oracle} {d : Nat} {r : V × List Wr} {hh : Hint}
def CallOk (P : Program) (nm : FuncId → Option Nat) (G : Nat → Option Obj) (Cl : Oracle) : Prop :=
  ∀ {N : Nat} {S : St} {a : Act} {w : World} {L : LabF} {o : Oper} {d : Nat} {r : V × List Wr} {c : Call} {f : Operand} {F : X} {xs : List (Bool × X)}, Rel nm N S a w L → NoH L → GI G w L → (∀ d, o.dst = some d → d < N) → o.op = .call c → c.callee = .value f → OpRel nm F f → F.okC = true →
    xs.length = c.args.toList.length → (∀ (j : Nat) x y, xs[j]? = some x → c.args.toList[j]? = some y → OpRel nm x.2 y ∧ x.2.okC = true) → (evOp Cl d (.call F xs)).run S = some r → OpsTo P a w o (Aft nm N S w L a o.dst r.1 r.2)
theorem bind_some {α β : Type} {x : Option α} {f : α → Option β} {r : β} (h : (x >>= f) = some r) : ∃ y, x = some y ∧ f y = some r := by
  cases x with
  | none => cases h
  | some y => exact ⟨y, rfl, h⟩
theorem map_some' {α β : Type} {x : Option α} {f : α → β} {r : β} (h : x.map f = some r) : ∃ y, x = some y ∧ r = f y := by
  cases x with
  | none => cases h
  | some y => exact ⟨y, rfl, by simpa using h.symm⟩
theorem elemsOk_of {e : TypeId} : ∀ (ps : List (Nat × Operand)) {xs : List (Nat × X)}, ps.mapM (compElem P nm hh e) = some xs → ElemsOk nm xs ps
  | [], xs, h => by
    have : xs = [] := by simpa using h.symm
    subst this
    trivial
  | p :: ps, xs, h => by
    rw [List.mapM_cons] at h
    obtain ⟨y, h1, h2⟩ := bind_some h
    obtain ⟨ys, h3, h4⟩ := bind_some h2
    have : xs = y :: ys := by simpa using h4.symm
    subst this
    unfold compElem at h1
    obtain ⟨x, h5, rfl⟩ := map_some' h1
    obtain ⟨g1, g2⟩ := compX_rel h5
    exact ⟨rfl, g1, g2, elemsOk_of ps h3⟩
theorem partsOk_of {fs : Array Field} : ∀ (ps : List (Nat × Operand)) {xs : List (Nat × Nat × X)}, ps.mapM (compPart P nm hh fs) = some xs → PartsOk nm (fun i => (fs.map fun f => (f.offset, (szOf P f.type).getD 0))[i]?) xs ps
  | [], xs, h => by
    have : xs = [] := by simpa using h.symm
    subst this
    trivial
  | p :: ps, xs, h => by
    rw [List.mapM_cons] at h
    obtain ⟨y, h1, h2⟩ := bind_some h
    obtain ⟨ys, h3, h4⟩ := bind_some h2
    have : xs = y :: ys := by simpa using h4.symm
    subst this
    unfold compPart at h1
    split at h1
    · rename_i f hf
      split at h1
      · rename_i n x hn hx
        split at h1
        · cases h1
        · rename_i hn0
          cases h1
          obtain ⟨g1, g2⟩ := compX_rel hx
          refine ⟨?_, hn0, g1, g2, partsOk_of ps h3⟩
          simp [Array.getElem?_map, hf, hn]
      · cases h1
    · cases h1
theorem lookOpt {t : TypeId} {lo : Option Operand} {LO : Option X} (h : (match lo with | none => some none | some v => (lookX P nm t v).map some) = some LO) :
    (∀ x, lo = some x → ∃ y, LO = some y ∧ OpRel nm y x) ∧ (lo = none → LO = none) := by
  cases lo with
  | none =>
    have : LO = none := by simpa using h.symm
    exact ⟨(fun x hx => by cases hx), fun _ => this⟩
  | some v =>
    obtain ⟨y, h1, rfl⟩ := map_some' h
    exact ⟨fun x hx => by cases hx; exact ⟨y, rfl, (lookX_rel h1).1⟩, fun hx => by cases hx⟩
theorem isU8_inv {t : TypeId} (h : isU8 (P.underlying t) = true) : P.underlying t = some (.int .u8) := by
  unfold isU8 at h
  split at h
  · assumption
  · cases h
theorem byU8_ok {e : TypeId} {b : Nat} : b ≤ byU8 e b ∧ (byU8 e b = 1 → e = 5) := by
  unfold byU8
  by_cases he : e = u8T
  · rw [if_pos he]; exact ⟨Nat.le_refl _, fun _ => he⟩
  · rw [if_neg he]
    by_cases hb : b = 1
    · rw [if_pos hb]; exact ⟨by omega, fun h => by cases h⟩
    · rw [if_neg hb]; exact ⟨Nat.le_refl _, fun h => absurd h hb⟩
theorem appT_of {t u e : TypeId} {i : TypeInfo} {dd : TypeDesc} {zs : List C} (ht : P.underlying t = some (.slice e)) (hu : P.underlying u = some dd) (hd : ∀ k, dd ≠ .int k) (hi : P.info? e = some i) (hz : zeroC P e = some zs) (hs : i.size ≠ 0) (hb : i.bytes ≠ 0) :
    ∃ z, AppT P i.size (byU8 e i.bytes) t u e i dd z := by
  obtain ⟨i', z, k1, k2, k3, k4, k5⟩ := zeroC_inv hz
  obtain rfl : i' = i := by rw [hi] at k1; simpa using k1.symm
  exact ⟨z, ht, hu, hd, hi, k2, rfl, k4, Nat.pos_of_ne_zero hs, byU8_ok.1, hb, byU8_ok.2⟩
theorem zip_mapM {l1 : List Operand} {l2 : List TypeId} {xs : List X} (h : (l1.zip l2).mapM (fun x => compX P nm hh x.2 x.1) = some xs) (hl : l1.length = l2.length) : xs.length = l1.length ∧ ∀ (j : Nat) x y, xs[j]? = some x → l1[j]? = some y → OpRel nm x y ∧ x.okC = true := by
  obtain ⟨h1, h2⟩ := mapM_inv _ h
  refine ⟨by rw [h1, List.length_zip]; omega, fun j x y hx hy => ?_⟩
  obtain ⟨p, g1, g2⟩ := h2 j x hx
  rw [List.getElem?_zip_eq_some] at g1
  have : p.1 = y := by rw [g1.1] at hy; simpa using hy
  rw [this] at g2
  exact compX_rel g2
theorem op_sound (hc : CallOk P nm G Cl) (R : Rel nm N S a w L) (hH : NoH L) (hG : GI G w L) (hd : ∀ d, o.dst = some d → d < N) {io : IOp} (hio : compOp P nm hh o = some io) (hr : (evOp Cl d io).run S = some r) :
    OpsTo P a w o (Aft nm N S w L a o.dst r.1 r.2) := by
  have bad : ∀ {io : IOp}, (none : Option IOp) = some io → False := fun h => by cases h
  unfold compOp at hio
  split at hio
  · rename_i x ho
    obtain ⟨X, h1, rfl⟩ := map_some' hio
    obtain ⟨g1, g2⟩ := compX_rel h1
    exact ev_mov R hH hd g1 g2 (.inl ho) hr
  · rename_i x ho
    obtain ⟨X, h1, rfl⟩ := map_some' hio
    obtain ⟨g1, g2⟩ := compX_rel h1
    exact ev_mov R hH hd g1 g2 (.inr ho) hr
  · rename_i c x y ho
    obtain ⟨C', h1, h2⟩ := bind_some hio
    obtain ⟨X, h3, h4⟩ := bind_some h2
    obtain ⟨Y, h5, h6⟩ := bind_some h4
    cases h6
    exact ev_pick R hd (lookX_rel h1).1 (lookX_rel h3).1 (lookX_rel h5).1 ho hr
  · rename_i e ho
    obtain ⟨zs, h1, h2⟩ := bind_some hio
    split at h2
    · split at h2
      · cases h2
        exact ev_allocB R hd ho h1 hr
      · cases h2
    · cases h2
      exact ev_alloc R hd ho h1 hr
  · rename_i e v ho
    obtain ⟨n, h1, h2⟩ := bind_some hio
    obtain ⟨X, h3, h4⟩ := bind_some h2
    split at h4
    · cases h4
    · rename_i hn
      obtain ⟨g1, g2⟩ := compX_rel h3
      split at h4
      · cases h4
        exact ev_boxB R hH hd g1 g2 ho hn hr
      · cases h4
        exact ev_box R hH hd g1 g2 ho hn hr
  · rename_i t parts ho
    obtain ⟨zs, h1, h2⟩ := bind_some hio
    split at h2
    · rename_i fs ht
      split at h2
      · rename_i hall
        obtain ⟨ps, h3, rfl⟩ := map_some' h2
        exact ev_build R hH hd ho h1 ht (fun f hf => by simpa using List.all_eq_true.1 hall f hf) (partsOk_of _ h3) hr
      · cases h2
    · cases h2
  · rename_i t len parts ho
    split at hio
    · rename_i e ht
      obtain ⟨zs, h1, h2⟩ := bind_some hio
      split at h2
      · rename_i row h3
        split at h2
        · cases h2
        · rename_i hcond
          obtain ⟨ps, h5, rfl⟩ := map_some' h2
          exact ev_bslice R hH hd ho ht h1 h3 (fun h => hcond (.inl h)) (fun h => hcond (.inr (.inl h))) (elemsOk_of _ h5) (fun h => Classical.byContradiction fun h8 => hcond (.inr (.inr ⟨h, h8⟩))) hr
      · obtain ⟨ps, h5, h6⟩ := bind_some h2
        split at h6
        · rename_i hcond
          cases h6
          exact ev_fslice R hH hd ho ht h1 hcond.1 hcond.2.1 hcond.2.2 (elemsOk_of _ h5) hr
        · cases h6
    · cases hio
  · rename_i t x ho
    obtain ⟨⟨n, agg⟩, h1, h2⟩ := bind_some hio
    obtain ⟨X, h3, h4⟩ := bind_some h2
    split at h4
    · cases h4
    · cases h4
      exact ev_load R hd (lookX_rel h3).1 ho h1 hr
  · rename_i t x v ho
    obtain ⟨n, h1, h2⟩ := bind_some hio
    obtain ⟨X, h3, h4⟩ := bind_some h2
    obtain ⟨V', h5, h6⟩ := bind_some h4
    split at h6
    · cases h6
    · rename_i hn
      cases h6
      obtain ⟨g1, g2⟩ := compX_rel h5
      exact ev_store R hH hd (lookX_rel h3).1 g1 g2 ho h1 hn hr
  · rename_i x ho
    obtain ⟨X, h1, rfl⟩ := map_some' hio
    exact ev_nilck R hd (lookX_rel h1).1 ho hr
  · rename_i op t x y yt ho
    obtain ⟨tc, h1, h2⟩ := bind_some hio
    obtain ⟨X, h3, h4⟩ := bind_some h2
    obtain ⟨Y, h5, h6⟩ := bind_some h4
    cases h6
    exact ev_bin R hd (lookX_rel h3).1 (lookX_rel h5).1 ho h1 hr
  · rename_i op t x ho
    obtain ⟨X, h1, rfl⟩ := map_some' hio
    exact ev_un R hd (lookX_rel h1).1 ho hr
  · rename_i s dt x ho
    obtain ⟨X, h1, h2⟩ := bind_some hio
    obtain ⟨g1, g2⟩ := lookX_rel h1
    split at h2
    · rename_i k k' hs hdt; cases h2; exact ev_convInt R hd g1 ho hs hdt hr
    · rename_i hs hdt; cases h2; exact ev_convSame R hd g1 ho hs hdt hr
    · rename_i e hs hdt
      split at h2
      · rename_i hu; cases h2; exact ev_strBytes R hH hd g1 ho hs hdt (isU8_inv hu.1) hu.2 hr
      · cases h2
    · rename_i e hs hdt
      split at h2
      · rename_i hu; cases h2; exact ev_convBytes R hd g1 g2 ho hs hdt (isU8_inv hu) hr
      · cases h2
    · cases h2
  · rename_i f x y ho
    obtain ⟨n, h1, h2⟩ := bind_some hio
    obtain ⟨n', k0, h1'⟩ := Option.bind_eq_some_iff.1 h1
    obtain ⟨ht, rfl⟩ : n' < fnsTag ∧ n' = n := by
      split at h1'
      · rename_i ht; cases h1'; exact ⟨ht, rfl⟩
      · cases h1'
    obtain ⟨xs, h3, h4⟩ := bind_some h2
    obtain ⟨ys, h5, h6⟩ := bind_some h4
    cases h6
    obtain ⟨g1, g2⟩ := mapM_inv _ h3
    obtain ⟨g3, g4⟩ := mapM_inv _ h5
    refine ev_mkfn R hH hd ht k0 g1 (fun j X z hX hz => ?_) g3 (fun j X z hX hz => ?_) ho hr
    · obtain ⟨z', k1, k2⟩ := g2 j X hX
      rw [hz] at k1; cases k1
      exact lookX_rel k2
    · obtain ⟨z', k1, k2⟩ := g4 j X hX
      rw [hz] at k1; cases k1
      exact lookX_rel k2
  · rename_i t l c ho
    split at hio
    · rename_i e ht
      obtain ⟨i, h1, h2⟩ := bind_some hio
      obtain ⟨zs, h3, h4⟩ := bind_some h2
      obtain ⟨row, h5, h6⟩ := bind_some h4
      obtain ⟨LX, h7, h8⟩ := bind_some h6
      obtain ⟨CX, h9, h10⟩ := bind_some h8
      split at h10
      · cases h10
      · rename_i hs
        cases h10
        exact ev_mkslice R hH hd (lookX_rel h7).1 (lookX_rel h9).1 ho ht h1 h3 h5 hs byU8_ok hr
    · cases hio
  · rename_i t x lo hi mx ho
    obtain ⟨X, h1, h2⟩ := bind_some hio
    obtain ⟨LO, h3, h4⟩ := bind_some h2
    obtain ⟨HI, h5, h6⟩ := bind_some h4
    obtain ⟨MX, h7, h8⟩ := bind_some h6
    obtain ⟨l1, l2⟩ := lookOpt h3
    obtain ⟨l3, l4⟩ := lookOpt h5
    obtain ⟨l5, l6⟩ := lookOpt h7
    split at h8
    · rename_i ht
      split at h8
      · cases h8
      · rename_i hm
        cases h8
        have hmn : mx = none := by
          cases mx with
          | none => rfl
          | some m => obtain ⟨y, hy, _⟩ := l5 m rfl; simp [hy] at hm
        subst hmn
        exact ev_sliceStr R hd (lookX_rel h1).1 ho ht l1 l2 l3 l4 hr
    · rename_i e ht
      obtain ⟨n, h9, h10⟩ := bind_some h8
      split at h10
      · cases h10
      · rename_i hcond
        cases h10
        refine ev_slice R hd (lookX_rel h1).1 ho ht h9 (fun h => hcond (.inl h)) l1 l2 l3 l4 l5 l6 (fun hm hh => ?_) hr
        apply hcond
        right
        cases mx with
        | none => exact absurd rfl hm
        | some m => obtain ⟨y, hy, _⟩ := l5 m rfl; exact ⟨by rw [hy]; rfl, by rw [l4 hh]; rfl⟩
    · cases h8
  · rename_i s x fi ho
    split at hio
    · rename_i fs hs
      obtain ⟨f, h1, h2⟩ := bind_some hio
      obtain ⟨n, h3, h4⟩ := bind_some h2
      obtain ⟨X, h5, h6⟩ := bind_some h4
      split at h6
      · cases h6
      · rename_i hn
        cases h6
        exact ev_fieldA R hd (lookX_rel h5).1 ho hs h1 h3 hn hr
    · cases hio
  · rename_i t x fi ho
    split at hio
    · rename_i fs hs
      obtain ⟨f, h1, h2⟩ := bind_some hio
      obtain ⟨⟨n, agg⟩, h3, h4⟩ := bind_some h2
      obtain ⟨X, h5, h6⟩ := bind_some h4
      cases h6
      obtain ⟨g1, g2⟩ := lookX_rel h5
      exact ev_field R hd g1 g2 ho hs h1 h3 hr
    · cases hio
  · rename_i t x i ho
    split at hio
    · rename_i e ht
      obtain ⟨n, h1, h2⟩ := bind_some hio
      obtain ⟨X, h3, h4⟩ := bind_some h2
      obtain ⟨I, h5, h6⟩ := bind_some h4
      split at h6
      · cases h6
      · cases h6
        exact ev_indexA R hd (lookX_rel h3).1 (lookX_rel h5).1 ho ht h1 hr
    · rename_i k e ht
      obtain ⟨n, h1, h2⟩ := bind_some hio
      obtain ⟨X, h3, h4⟩ := bind_some h2
      obtain ⟨I, h5, h6⟩ := bind_some h4
      split at h6
      · cases h6
      · cases h6
        exact ev_indexR R hd (lookX_rel h3).1 (lookX_rel h5).1 ho ht h1 hr
    · cases hio
  · rename_i t x i ho
    split at hio
    · rename_i ht
      obtain ⟨X, h3, h4⟩ := bind_some hio
      obtain ⟨I, h5, h6⟩ := bind_some h4
      cases h6
      exact ev_index R hd (lookX_rel h3).1 (lookX_rel h5).1 ho ht hr
    · cases hio
  · rename_i x j ho
    obtain ⟨X, h1, rfl⟩ := map_some' hio
    exact ev_extract R hd (lookX_rel h1).1 ho hr
  · rename_i t x ho
    split at hio
    · cases hio
    · rename_i dd hnd ht
      obtain ⟨X, h1, rfl⟩ := map_some' hio
      exact ev_mkif R hd ho ht (fun m e => hnd m e) hr
    · cases hio
  · rename_i t r ho
    split at hio
    · rename_i k e ht
      split at hio
      · rename_i hc
        cases hio
        cases r with
        | none => exact ev_mkmap R hd ho hr
        | some x => cases hc.2.2.1
      · cases hio
    · cases hio
  · rename_i t m k ok ho
    split at hio
    · rename_i kt e ht
      obtain ⟨M, h1, h2⟩ := bind_some hio
      obtain ⟨K, h3, h4⟩ := bind_some h2
      split at h4
      · rename_i hc
        cases h4
        obtain ⟨c1, c2, c3, rfl⟩ := hc
        exact ev_mget R hd (lookX_rel h1).1 (lookX_rel h3).1 ho ht (isStrD_inv c1) c3 hr
      · cases h4
    · cases hio
  · rename_i t m k x ho
    split at hio
    · rename_i kt e ht
      obtain ⟨M, h1, h2⟩ := bind_some hio
      obtain ⟨K, h3, h4⟩ := bind_some h2
      obtain ⟨Z, h5, h6⟩ := bind_some h4
      split at h6
      · rename_i hc
        cases h6
        exact ev_mset R hd (lookX_rel h1).1 (lookX_rel h3).1 (lookX_rel h5).1 ho ht (isStrD_inv hc.1) hr
      · cases h6
    · cases hio
  · rename_i c ho
    unfold compCall at hio
    split at hio
    · rename_i f hf
      obtain ⟨F, h1, h2⟩ := bind_some hio
      split at h2
      · rename_i hsz
        obtain ⟨xs, h3, h4⟩ := bind_some h2
        cases h4
        obtain ⟨g1, g2⟩ := lookX_rel h1
        obtain ⟨g3, g4⟩ := zip_mapM h3 (by simpa using hsz)
        refine hc R hH hG hd ho hf g1 g2 (by simpa using g3) (fun j x y hx hy => ?_) hr
        rw [List.getElem?_map] at hx
        cases hz : (xs.zipIdx)[j]? with
        | none => simp [hz] at hx
        | some p =>
          simp only [hz, Option.map_some, Option.some.injEq] at hx
          subst hx
          rw [List.getElem?_zipIdx] at hz
          cases hxj : xs[j]? with
          | none => simp [hxj] at hz
          | some X =>
            simp only [hxj, Option.map_some, Option.some.injEq] at hz
            subst hz
            exact g4 j X y hxj hy
      · cases h2
    · rename_i hb
      split at hio
      · rename_i x t hx ht
        have hcc : c = ⟨.builtin .len, #[x], #[t]⟩ := by obtain ⟨cl, ca, ct⟩ := c; simp only at hb hx ht; subst hb; congr <;> (apply Array.ext'; simpa using by assumption)
        subst hcc
        split at hio
        · rename_i hu
          obtain ⟨X, h1, rfl⟩ := map_some' hio
          exact ev_len R hd (lookX_rel h1).1 ho (by simpa using hu) hr
        · rename_i e hu
          obtain ⟨X, h1, rfl⟩ := map_some' hio
          exact ev_len R hd (lookX_rel h1).1 ho (by simpa using ⟨e, hu⟩) hr
        · cases hio
      · cases hio
    · rename_i hb
      split at hio
      · rename_i x y t u hx ht
        have hcc : c = ⟨.builtin .append, #[x, y], #[t, u]⟩ := by obtain ⟨cl, ca, ct⟩ := c; simp only at hb hx ht; subst hb; congr <;> (apply Array.ext'; simpa using by assumption)
        subst hcc
        split at hio
        · rename_i e hte
          obtain ⟨i, h1, h2⟩ := bind_some hio
          obtain ⟨zs, h3, h4⟩ := bind_some h2
          obtain ⟨X, h5, h6⟩ := bind_some h4
          obtain ⟨g1, g2⟩ := compX_rel h5
          split at h6
          · rename_i e' hue
            obtain ⟨Y, h7, h8⟩ := bind_some h6
            split at h8
            · cases h8
            · rename_i hcond
              cases h8
              obtain ⟨g3, g4⟩ := compX_rel h7
              obtain ⟨z, T⟩ := appT_of hte hue (by simp) h1 h3 (fun h => hcond (.inl h)) (fun h => hcond (.inr h))
              exact ev_app R hH hd g1 g2 g3 g4 ho T hr
          · rename_i hue
            obtain ⟨Y, h7, h8⟩ := bind_some h6
            split at h8
            · rename_i hcond
              cases h8
              obtain ⟨z, T⟩ := appT_of hte hue (by simp) h1 h3 (by omega) (by omega)
              have hb1 : byU8 e i.bytes = 1 := by rw [hcond.2.2.2, hcond.2.1]; rfl
              rw [hcond.1, hb1] at T
              exact ev_appS R hH hd g1 g2 (lookX_rel h7).1 ho T hr
            · cases h8
          · cases h6
        · cases hio
      · cases hio
    · rename_i hb
      split at hio
      · rename_i x t hx ht
        have hcc : c = ⟨.builtin .unsafeSliceData, #[x], #[t]⟩ := by obtain ⟨cl, ca, ct⟩ := c; simp only at hb hx ht; subst hb; congr <;> (apply Array.ext'; simpa using by assumption)
        subst hcc
        obtain ⟨X, h1, rfl⟩ := map_some' hio
        exact ev_sdata R hd (lookX_rel h1).1 ho hr
      · cases hio
    · rename_i hb
      split at hio
      · rename_i x y t u hx ht
        have hcc : c = ⟨.builtin .unsafeString, #[x, y], #[t, u]⟩ := by obtain ⟨cl, ca, ct⟩ := c; simp only at hb hx ht; subst hb; congr <;> (apply Array.ext'; simpa using by assumption)
        subst hcc
        split at hio
        · rename_i e he
          split at hio
          · rename_i hcond
            obtain ⟨X, h3, h4⟩ := bind_some hio
            obtain ⟨Y, h5, h6⟩ := bind_some h4
            cases h6
            obtain ⟨h7, h8⟩ := hcond
            have h9 : e = 5 := h7
            subst h9
            exact ev_ustr R hd (lookX_rel h3).1 (lookX_rel h5).1 ho he h8 hr
          · cases hio
        · cases hio
      · cases hio
    · rename_i hb
      split at hio
      · rename_i x y t u hx ht
        have hcc : c = ⟨.builtin .min, #[x, y], #[t, u]⟩ := by obtain ⟨cl, ca, ct⟩ := c; simp only at hb hx ht; subst hb; congr <;> (apply Array.ext'; simpa using by assumption)
        subst hcc
        obtain ⟨X, h3, h4⟩ := bind_some hio
        obtain ⟨Y, h5, h6⟩ := bind_some h4
        cases h6
        exact ev_min R hd (lookX_rel h3).1 (lookX_rel h5).1 ho hr
      · cases hio
    · rename_i hb
      split at hio
      · rename_i x y t u hx ht
        have hcc : c = ⟨.builtin .max, #[x, y], #[t, u]⟩ := by obtain ⟨cl, ca, ct⟩ := c; simp only at hb hx ht; subst hb; congr <;> (apply Array.ext'; simpa using by assumption)
        subst hcc
        obtain ⟨X, h3, h4⟩ := bind_some hio
        obtain ⟨Y, h5, h6⟩ := bind_some h4
        cases h6
        exact ev_max R hd (lookX_rel h3).1 (lookX_rel h5).1 ho hr
      · cases hio
    · cases hio
  · cases hio
end
end
section
def St.same (S S' : St) : Prop := ∀ k, S.get k = S'.get k
theorem St.same.refl (S : St) : S.same S := fun _ => rfl
theorem St.same.symm {S S' : St} (h : S.same S') : S'.same S := fun k => (h k).symm
theorem St.same.trans {S S' S'' : St} (h : S.same S') (k : S'.same S'') : S.same S'' := fun x => (h x).trans (k x)
theorem St.same.wr {S S' : St} (h : S.same S') (x : Wr) : (S.wr x).same (S'.wr x) := by
  intro k
  rw [St.get_wr, St.get_wr, h x.k, h k]
theorem St.same.wrs {S S' : St} (h : S.same S') : ∀ ws : List Wr, (S.wrs ws).same (S'.wrs ws)
  | [] => h
  | x :: t => (St.same.wrs h t).wr x
theorem Q.run_same {α : Type} {S S' : St} (h : S.same S') (x : Q α) : x.run S' = x.run S ∧ x.reads S' = x.reads S := Q.run_congr x (fun k _ => (h k).symm)
theorem wrs_get_ne (S : St) : ∀ (ws : List Wr) (k : Key), (∀ x ∈ ws, x.k ≠ k) → (S.wrs ws).get k = S.get k
  | [], _, _ => rfl
  | x :: t, k, h => by
    simp only [St.wrs, St.get_wr]
    rw [if_neg (h x (by simp))]
    exact wrs_get_ne S t k (fun y hy => h y (by simp [hy]))
theorem wrs_get_congr (ws : List Wr) {S S' : St} {k : Key} (h : S.get k = S'.get k) : (S.wrs ws).get k = (S'.wrs ws).get k := by
  induction ws with
  | nil => exact h
  | cons x t ih =>
    simp only [St.wrs, St.get_wr]
    by_cases hk : x.k = k
    · subst hk; rw [if_pos rfl, if_pos rfl, ih]
    · rw [if_neg hk, if_neg hk]; exact ih
theorem wrs_comm (S : St) (u v : List Wr) (h : ∀ x ∈ u, ∀ y ∈ v, x.k ≠ y.k) : ((S.wrs u).wrs v).same ((S.wrs v).wrs u) := by
  intro k
  by_cases hu : ∃ x ∈ u, x.k = k
  · obtain ⟨x, hx, rfl⟩ := hu
    rw [wrs_get_ne _ v x.k (fun y hy e => h x hx y hy e.symm)]
    exact wrs_get_congr u (wrs_get_ne S v x.k (fun y hy e => h x hx y hy e.symm)).symm
  · have hu' : ∀ x ∈ u, x.k ≠ k := fun x hx e => hu ⟨x, hx, e⟩
    rw [wrs_get_ne (S.wrs v) u k hu']
    exact wrs_get_congr v (wrs_get_ne S u k hu')
theorem Foot.apart_inv {x y : Foot} (h : x.apart y = true) : (∀ k ∈ x.w, k ∉ y.r ∧ k ∉ y.w) ∧ ∀ k ∈ y.w, k ∉ x.r := by
  unfold Foot.apart at h
  simp only [Bool.and_eq_true, List.all_eq_true, Bool.not_eq_true', List.contains_eq_mem, decide_eq_false_iff_not] at h
  exact h
theorem evOpsF_same (Cl : Oracle) : ∀ (l : List IOper) {S S' Sf : St} {F : List Foot}, S.same S' → evOpsF Cl l S = some (Sf, F) → ∃ Sf', evOpsF Cl l S' = some (Sf', F) ∧ Sf.same Sf'
  | [], S, S', Sf, F, h, he => by
    simp only [evOpsF, Option.some.injEq, Prod.mk.injEq] at he
    obtain ⟨rfl, rfl⟩ := he
    exact ⟨S', rfl, h⟩
  | o :: t, S, S', Sf, F, h, he => by
    simp only [evOpsF] at he ⊢
    obtain ⟨h1, h2⟩ := Q.run_same h (evOper Cl o)
    rw [h1, h2]
    cases hw : (evOper Cl o).run S with
    | none => simp [hw] at he
    | some ws =>
      simp only [hw, Option.bind_some] at he ⊢
      obtain ⟨⟨S1, F1⟩, h3, h4⟩ := map_some' he
      simp only [Prod.mk.injEq] at h4
      obtain ⟨rfl, rfl⟩ := h4
      obtain ⟨S2, h5, h6⟩ := evOpsF_same Cl t (h.wrs ws) h3
      exact ⟨S2, by rw [h5]; rfl, h6⟩
theorem bring_front (Cl : Oracle) (o : IOper) (f : Foot) (l2 : List IOper) (F2 : List Foot) : ∀ (l1 : List IOper) {S Sf : St} {F1 : List Foot}, F1.length = l1.length → evOpsF Cl (l1 ++ o :: l2) S = some (Sf, F1 ++ f :: F2) → (∀ g ∈ F1, g.apart f = true) →
    ∃ ws, (evOper Cl o).run S = some ws ∧ f = ⟨(evOper Cl o).reads S, ws.map (·.k)⟩ ∧ ∃ Sf', evOpsF Cl (l1 ++ l2) (S.wrs ws) = some (Sf', F1 ++ F2) ∧ Sf.same Sf'
  | [], S, Sf, F1, hl, he, ha => by
    have : F1 = [] := List.length_eq_zero_iff.1 hl
    subst this
    simp only [List.nil_append, evOpsF] at he ⊢
    cases hw : (evOper Cl o).run S with
    | none => simp [hw] at he
    | some ws =>
      simp only [hw, Option.bind_some] at he
      obtain ⟨⟨S1, F1⟩, h3, h4⟩ := map_some' he
      simp only [Prod.mk.injEq, List.cons.injEq] at h4
      obtain ⟨rfl, rfl, rfl⟩ := h4
      exact ⟨ws, rfl, rfl, Sf, h3, St.same.refl _⟩
  | x :: t, S, Sf, F1, hl, he, ha => by
    cases F1 with
    | nil => simp at hl
    | cons g F1 =>
      simp only [List.cons_append, evOpsF] at he
      cases hw : (evOper Cl x).run S with
      | none => simp [hw] at he
      | some wx =>
        simp only [hw, Option.bind_some] at he
        obtain ⟨⟨S1, F'⟩, h3, h4⟩ := map_some' he
        simp only [Prod.mk.injEq, List.cons.injEq] at h4
        obtain ⟨rfl, rfl, rfl⟩ := h4
        obtain ⟨ws, h5, h6, Sf', h7, h8⟩ := bring_front Cl o f l2 F2 t (by simpa using hl) h3 (fun g hg => ha g (by simp [hg]))
        obtain ⟨a1, a2⟩ := Foot.apart_inv (ha ⟨(evOper Cl x).reads S, wx.map (·.k)⟩ (by simp))
        have hro : (evOper Cl o).run S = some ws ∧ (evOper Cl o).reads S = (evOper Cl o).reads (S.wrs wx) := by
          have := Q.run_congr (S := S.wrs wx) (S' := S) (evOper Cl o) (fun k hk => by
            refine (wrs_get_ne S wx k ?_).symm
            rintro y hy rfl
            have := (a1 y.k (List.mem_map.2 ⟨y, hy, rfl⟩)).1
            rw [h6] at this
            exact this hk)
          exact ⟨this.1.trans h5, this.2⟩
        have hrx : (evOper Cl x).run (S.wrs ws) = some wx ∧ (evOper Cl x).reads (S.wrs ws) = (evOper Cl x).reads S := by
          have := Q.run_congr (S := S) (S' := S.wrs ws) (evOper Cl x) (fun k hk => by
            refine wrs_get_ne S ws k ?_
            rintro y hy rfl
            exact a2 y.k (by rw [h6]; exact List.mem_map.2 ⟨y, hy, rfl⟩) hk)
          exact ⟨this.1.trans hw, this.2⟩
        have hdis : ∀ y ∈ wx, ∀ z ∈ ws, y.k ≠ z.k := by
          intro y hy z hz e
          have := (a1 y.k (List.mem_map.2 ⟨y, hy, rfl⟩)).2
          rw [h6, e] at this
          exact this (List.mem_map.2 ⟨z, hz, rfl⟩)
        obtain ⟨Sf'', h9, h10⟩ := evOpsF_same Cl (t ++ l2) (wrs_comm S wx ws hdis) h7
        refine ⟨ws, hro.1, by rw [h6, hro.2], Sf'', ?_, h8.trans h10⟩
        simp only [List.cons_append, evOpsF, hrx.1, hrx.2, Option.bind_some, h9, Option.map_some]
theorem before_bits (ops : Array Oper) : (Region.before ops).size = ops.size ∧ ∀ i j, ((Region.before ops).getD i 0).testBit j = true → ∃ o e, ops[i]? = some o ∧ e ∈ o.after ∧ Region.binds .any e = true ∧ (e.on = j ∨ (e.on < i ∧ ((Region.before ops).getD e.on 0).testBit j = true)) := by
  have inner : ∀ (acc : Array Nat) (l : List Edge) (s j : Nat), (l.foldl (fun s e => if Region.binds .any e then s ||| 2 ^ e.on ||| acc.getD e.on 0 else s) s).testBit j = true →
      s.testBit j = true ∨ ∃ e ∈ l, Region.binds .any e = true ∧ (e.on = j ∨ (acc.getD e.on 0).testBit j = true) := by
    intro acc l
    induction l with
    | nil => intro s j h; exact .inl h
    | cons e l ih =>
      intro s j h
      simp only [List.foldl_cons] at h
      rcases ih _ _ h with h | ⟨e', h1, h2, h3⟩
      · split at h
        · rename_i hb
          rw [Nat.testBit_or, Nat.testBit_or, Bool.or_eq_true, Bool.or_eq_true] at h
          rcases h with (h | h) | h
          · exact .inl h
          · rw [Nat.testBit_two_pow] at h
            exact .inr ⟨e, by simp, hb, .inl (by simpa using h)⟩
          · exact .inr ⟨e, by simp, hb, .inr h⟩
        · exact .inl h
      · exact .inr ⟨e', by simp [h1], h2, h3⟩
  have main : ∀ (n : Nat), n ≤ ops.size → ∀ (acc : Array Nat), acc = (ops.toList.take n).foldl (fun acc o => acc.push (o.after.foldl (fun s e => if Region.binds .any e then s ||| 2 ^ e.on ||| acc.getD e.on 0 else s) 0)) #[] →
      acc.size = n ∧ ∀ i j, (acc.getD i 0).testBit j = true → ∃ o e, ops[i]? = some o ∧ e ∈ o.after ∧ Region.binds .any e = true ∧ (e.on = j ∨ (e.on < i ∧ (acc.getD e.on 0).testBit j = true)) := by
    intro n
    induction n with
    | zero =>
      intro _ acc h
      subst h
      exact ⟨rfl, fun i j h => by simp at h⟩
    | succ n ih =>
      intro hn acc h
      rw [List.take_succ_eq_append_getElem (by rw [Array.length_toList]; omega), List.foldl_append] at h
      obtain ⟨acc0, hacc0⟩ : ∃ x, x = (ops.toList.take n).foldl (fun acc o => acc.push (o.after.foldl (fun s e => if Region.binds .any e then s ||| 2 ^ e.on ||| acc.getD e.on 0 else s) 0)) #[] := ⟨_, rfl⟩
      obtain ⟨g1, g2⟩ := ih (by omega) acc0 hacc0
      rw [← hacc0] at h
      clear hacc0 ih
      simp only [List.foldl_cons, List.foldl_nil] at h
      have hpre : ∀ k, k < n → acc.getD k 0 = acc0.getD k 0 := by
        intro k hk
        subst h
        simp only [Array.getD_eq_getD_getElem?]
        rw [Array.getElem?_push, if_neg (by omega)]
      refine ⟨by rw [h]; simp [g1], fun i j hb => ?_⟩
      by_cases hi : i < n
      · rw [hpre i hi] at hb
        obtain ⟨o, e, k1, k2, k3, k4⟩ := g2 i j hb
        refine ⟨o, e, k1, k2, k3, k4.imp id (fun ⟨k5, k6⟩ => ⟨k5, by rw [hpre _ (by omega)]; exact k6⟩)⟩
      · by_cases hin : i = n
        · subst hin
          have hv : acc.getD i 0 = (ops[i]'(by omega)).after.foldl (fun s e => if Region.binds .any e then s ||| 2 ^ e.on ||| acc0.getD e.on 0 else s) 0 := by
            rw [h]
            simp only [Array.getD_eq_getD_getElem?]
            rw [Array.getElem?_push, if_pos (by omega)]
            simp
          rw [hv, ← Array.foldl_toList] at hb
          rcases inner acc0 _ 0 j hb with h0 | ⟨e, k1, k2, k3⟩
          · simp at h0
          · refine ⟨ops[i], e, by simp, by simpa using k1, k2, ?_⟩
            rcases k3 with k3 | k3
            · exact .inl k3
            · have hon : e.on < i := by
                rcases Nat.lt_or_ge e.on i with h | h
                · exact h
                · rw [Array.getD_eq_getD_getElem?, Array.getElem?_eq_none (by omega)] at k3
                  simp at k3
              exact .inr ⟨hon, by rw [hpre _ hon]; exact k3⟩
        · rw [Array.getD_eq_getD_getElem?, Array.getElem?_eq_none (by rw [h]; simp [g1]; omega)] at hb
          simp at hb
  have := main ops.size (Nat.le_refl _) (Region.before ops) (by
    unfold Region.before
    rw [List.take_of_length_le (by rw [Array.length_toList]; exact Nat.le_refl _), Array.foldl_toList])
  exact this
def Closed (ops : Array Oper) (listed : Array Bool) : Prop := ∀ (i : Nat) o, ops[i]? = some o → listed.getD i true = true → ∀ e ∈ o.after, Region.binds .any e = true → listed.getD e.on false = true
theorem before_listed (ops : Array Oper) (listed : Array Bool) (hs : listed.size = ops.size) (hc : Closed ops listed) : ∀ (n i : Nat), i < n → ∀ o, ops[i]? = some o → (∀ e ∈ o.after, Region.binds .any e = true → listed.getD e.on false = true) →
    ∀ j, ((Region.before ops).getD i 0).testBit j = true → listed.getD j false = true
  | 0, i, hi, _, _, _, _, _ => by omega
  | n + 1, i, hi, o, ho, hr, j, hb => by
    obtain ⟨o', e, h1, h2, h3, h4⟩ := (before_bits ops).2 i j hb
    rw [ho] at h1
    cases h1
    have hl := hr e h2 h3
    rcases h4 with rfl | ⟨h4, h5⟩
    · exact hl
    · have hlt : e.on < ops.size := by
        rcases Nat.lt_or_ge e.on ops.size with h | h
        · exact h
        · rw [Array.getD_eq_getD_getElem?, Array.getElem?_eq_none (by omega)] at hl
          cases hl
      refine before_listed ops listed hs hc n e.on (by omega) ops[e.on] (by simp [hlt]) (hc e.on _ (by simp [hlt]) ?_) j h5
      rw [Array.getD_eq_getD_getElem?] at hl ⊢
      cases hx : listed[e.on]? with
      | none => rfl
      | some b => simpa [hx] using hl
end
section
section
variable {nm : FuncId → Option Nat} {G : Nat → Option Obj} {N : Nat} {S : St} {a : Act} {w : World} {L : LabF} {P : Program} {o : Oper} {Cl : Oracle} {hh : Hint} {ops : Array Oper}
theorem Rel.same {S S' : St} (h : S.same S') (R : Rel nm N S a w L) : Rel nm N S' a w L := by
  have h1 : S'.E = S.E := funext fun k => by unfold St.E; rw [h k]
  have h2 : S'.γ = S.γ := funext fun k => by unfold St.γ; rw [h k]
  unfold Rel
  rw [h1, h2]; exact R
theorem Done.same {S S' : St} {w0 : World} {L0 : LabF} (h : S.same S') (D : Done nm N S w0 L0 a w L) : Done nm N S' w0 L0 a w L := ⟨D.rel.same h, D.mono, D.noH⟩
theorem yielded_of {j d : Nat} {g : Oper} (hg : ops[j]? = some g) (hd : g.dst = some d) (tmps : Array Value) : yielded ops tmps j = match tmps[d]? with | some (.bool b) => some b | _ => none := by
  unfold yielded
  rw [hg, Option.bind_some, hd, Option.bind_some]
  cases tmps[d]? with
  | none => rfl
  | some v => cases v <;> rfl
theorem oper_sound (hc : CallOk P nm G Cl) (R : Rel nm N S a w L) (hH : NoH L) (hG : GI G w L) (hN : hh.nt = N) {io : IOper} {i : Nat} (hi : ops[i]? = some o) (hio : compOper P nm hh ops o = some io) {ws : List Wr} (hr : (evOper Cl io).run S = some ws)
    {K : Act → World → Prop} {Qx : Exit → Act → World → Prop} (hK : ∀ a' w' L', Done nm N (S.wrs ws) w L a' w' L' → K a' w') : wpOp P ops Qx i K a w := by
  unfold compOper at hio
  split at hio
  · rename_i hdst
    have hd : ∀ d, o.dst = some d → d < N := by
      intro d hd
      rw [hd] at hdst
      simpa [hN] using hdst
    have wanted : ∀ {v : V} {ws1 : List Wr}, Region.wanted o (yielded ops a.tmps) = true → (evOp Cl (o.dst.getD 0) ((compOp P nm hh o).getD .bad)).run S = some (v, ws1) → ws = wrsOf o.dst v ws1 → wpOp P ops Qx i K a w := by
      intro v ws1 hw hev hws
      unfold wpOp
      rw [hi]
      simp only [hw, if_true]
      left
      cases hcop : compOp P nm hh o with
      | none => rw [hcop] at hev; simp [evOp] at hev
      | some io' =>
        rw [hcop] at hev
        exact (op_sound hc R hH hG hd hcop hev).wp (fun v' w' ⟨L', D⟩ => hK _ _ _ (by rw [hws]; exact D))
    have skip : Region.wanted o (yielded ops a.tmps) = false → ws = (match o.dst with | some d => [{ k := .s d, v := .tup [] }] | none => []) → wpOp P ops Qx i K a w := by
      intro hw hws
      unfold wpOp
      rw [hi]
      simp only [hw, Bool.false_eq_true, if_false]
      obtain ⟨L', D⟩ := Rel.aft (ws := []) (dst := o.dst) (m := 0) (x := .tup []) (v := undef) R (Mono.refl w L) hd (.tup (us := #[]) rfl rfl (fun i x u h => by simp at h))
      refine hK _ _ _ (by rw [hws]; cases hod : o.dst <;> simpa [wrsOf, hod] using D)
    have fin : ∀ {gd : Option (Nat × Bool)} {want : Bool} {f : Unit}, io = ⟨o.dst, (compOp P nm hh o).getD .bad, gd⟩ → True := fun _ => trivial
    split at hio
    · rename_i hg
      cases hio
      unfold evOper at hr
      obtain ⟨want, h1, h2⟩ := Q.run_bind_some hr
      obtain rfl := Q.run_pure_some h1
      simp only [if_true] at h2
      obtain ⟨⟨v, ws1⟩, h3, h4⟩ := Q.run_bind_some h2
      refine wanted (by unfold Region.wanted; rw [hg]) h3 ?_
      cases hod : o.dst with
      | none => rw [hod] at h4; simpa [wrsOf] using Q.run_pure_some h4
      | some d => rw [hod] at h4; simpa [wrsOf] using Q.run_pure_some h4
    · rename_i j b hg
      split at hio
      · rename_i d hjd
        cases hio
        obtain ⟨g, hgj, hgd⟩ : ∃ g, ops[j]? = some g ∧ g.dst = some d := by
          cases hx : ops[j]? with
          | none => simp [hx] at hjd
          | some g => exact ⟨g, rfl, by simpa [hx] using hjd⟩
        have hy := yielded_of hgj hgd a.tmps
        have hsl := R.slot d
        unfold evOper at hr
        obtain ⟨want, h1, h2⟩ := Q.run_bind_some hr
        have h1' := Q.run_at_some h1
        have hwant : Region.wanted o (yielded ops a.tmps) = want := by
          unfold Region.wanted
          rw [hg]
          simp only
          rw [hy]
          split at h1'
          · rename_i x hx
            obtain rfl := Q.run_pure_some h1'
            have hE : S.E (.s d) = .one (.d (.bool x)) := hx
            rw [hE] at hsl
            have hv := hsl.one_inv.bool_inv
            rw [Array.getD_eq_getD_getElem?] at hv
            cases ht : a.tmps[d]? with
            | none => rw [ht] at hv; simp [undef] at hv
            | some u =>
              rw [ht] at hv
              simp only [Option.getD_some] at hv
              subst hv
              cases x <;> cases b <;> rfl
          · rename_i hx
            obtain rfl := Q.run_pure_some h1'
            have hE : S.E (.s d) = .tup [] := hx
            rw [hE] at hsl
            rw [Array.getD_eq_getD_getElem?] at hsl
            cases ht : a.tmps[d]? with
            | none => rfl
            | some u =>
              rw [ht] at hsl
              simp only [Option.getD_some] at hsl
              cases hsl
              rfl
          · cases h1'
        cases want with
        | true =>
          simp only [if_true] at h2
          obtain ⟨⟨v, ws1⟩, h3, h4⟩ := Q.run_bind_some h2
          refine wanted hwant h3 ?_
          cases hod : o.dst with
          | none => rw [hod] at h4; simpa [wrsOf] using Q.run_pure_some h4
          | some d => rw [hod] at h4; simpa [wrsOf] using Q.run_pure_some h4
        | false =>
          simp only [Bool.false_eq_true, if_false] at h2
          refine skip hwant ?_
          cases hod : o.dst with
          | none => rw [hod] at h2; simpa using Q.run_pure_some h2
          | some d => rw [hod] at h2; simpa using Q.run_pure_some h2
      · cases hio
  · cases hio
theorem compOps_inv {l : List IOper} (h : compOps P nm hh ops = some l) : l.length = ops.size ∧ ∀ (i : Nat) io, l[i]? = some io → ∃ o, ops[i]? = some o ∧ compOper P nm hh ops o = some io := by
  obtain ⟨h1, h2⟩ := mapM_inv _ h
  refine ⟨by simpa using h1, fun i io hi => ?_⟩
  obtain ⟨o, g1, g2⟩ := h2 i io hi
  exact ⟨o, by rw [← Array.getElem?_toList]; exact g1, g2⟩
theorem Done.trans {S S' : St} {a a' : Act} {w0 w w' : World} {L0 L L' : LabF} (h : Done nm N S w0 L0 a w L) (k : Done nm N S' w L a' w' L') : Done nm N S' w0 L0 a' w' L' := ⟨k.rel, h.mono.trans k.mono, k.noH⟩
theorem ops_sound (hc : CallOk P nm G Cl) (hN : hh.nt = N) {l : List IOper} (hl : compOps P nm hh ops = some l) {Q : Exit → Act → World → Prop} : ∀ (m k : Nat), k + m = ops.size → ∀ {S Sf : St} {a : Act} {w : World} {L : LabF}, Rel nm N S a w L → NoH L → GI G w L → evOps Cl (l.drop k) S = some Sf →
    (∀ a' w' L', Done nm N Sf w L a' w' L' → Q .normal a' w') → wpOps P ops Q (List.range' k m) a w
  | 0, k, hk, S, Sf, a, w, L, R, hH, hG, he, hQ => by
    obtain ⟨h1, _⟩ := compOps_inv hl
    rw [List.drop_of_length_le (by omega)] at he
    simp only [evOps, Option.some.injEq] at he
    subst he
    exact hQ a w L ⟨R, Mono.refl w L, hH⟩
  | m + 1, k, hk, S, Sf, a, w, L, R, hH, hG, he, hQ => by
    obtain ⟨h1, h2⟩ := compOps_inv hl
    have hkl : k < l.length := by omega
    rw [List.drop_eq_getElem_cons hkl] at he
    simp only [evOps] at he
    cases hw : (evOper Cl l[k]).run S with
    | none => simp [hw] at he
    | some ws =>
      simp only [hw, Option.bind_some] at he
      obtain ⟨o, g1, g2⟩ := h2 k l[k] (by simp)
      rw [List.range'_succ, wpOps_cons]
      exact oper_sound hc R hH hG hN g1 g2 hw (fun a' w' L' D => ops_sound hc hN hl m (k + 1) (by omega) D.rel D.noH (hG.mono D.mono) he (fun a'' w'' L'' D' => hQ _ _ _ (D.trans D')))
theorem ready_iff {listed : Array Bool} {i : Nat} : i ∈ Region.ready .any ops listed ↔ i < ops.size ∧ listed.getD i true = false ∧ ∃ o, ops[i]? = some o ∧ ∀ e ∈ o.after, Region.binds .any e = true → listed.getD e.on false = true := by
  unfold Region.ready
  rw [List.mem_filter, List.mem_range]
  simp only [Bool.and_eq_true, Bool.not_eq_true']
  constructor
  · rintro ⟨h1, h2, h3⟩
    refine ⟨h1, h2, ops[i], by simp [h1], ?_⟩
    simp only [Array.getElem?_eq_getElem h1, Option.map_some, Option.getD_some] at h3
    intro e he hb
    have := Array.all_eq_true'.1 h3 e he
    simpa [hb] using this
  · rintro ⟨h1, h2, o, h3, h4⟩
    refine ⟨h1, h2, ?_⟩
    rw [h3]
    simp only [Option.map_some, Option.getD_some]
    rw [Array.all_eq_true']
    intro e he
    cases hb : Region.binds .any e with
    | false => rfl
    | true => simpa [hb] using h4 e he hb
theorem any_sound (hc : CallOk P nm G Cl) (hN : hh.nt = N) {l : List IOper} (hl : compOps P nm hh ops = some l) (hok : edgesOk ops = true) {Q : Exit → Act → World → Prop} {φ : Nat → Foot}
    (hφ : ∀ i j, i < j → j < ops.size → ((Region.before ops).getD j 0).testBit i = false → (φ i).apart (φ j) = true) :
    ∀ (fuel : Nat) (rem : List Nat) (listed : Array Bool), rem.length = fuel → listed.size = ops.size → rem.Pairwise (· < ·) → (∀ i, i ∈ rem ↔ i < ops.size ∧ listed.getD i true = false) → Closed ops listed →
    ∀ {S Sf : St} {a : Act} {w : World} {L : LabF}, Rel nm N S a w L → NoH L → GI G w L → evOpsF Cl (rem.map fun i => l.getD i default) S = some (Sf, rem.map φ) → (∀ a' w' L', Done nm N Sf w L a' w' L' → Q .normal a' w') → wpAny P .any ops Q fuel listed a w
  | 0, rem, listed, hlen, hsz, hsort, hrem, hcl, S, Sf, a, w, L, R, hH, hG, he, hQ => by
    have : rem = [] := List.length_eq_zero_iff.1 hlen
    subst this
    simp only [List.map_nil, evOpsF, Option.some.injEq, Prod.mk.injEq, and_true] at he
    subst he
    refine ⟨?_, hQ a w L ⟨R, Mono.refl w L, hH⟩⟩
    rw [List.eq_nil_iff_forall_not_mem]
    intro i hi
    obtain ⟨h1, h2, _⟩ := ready_iff.1 hi
    exact absurd ((hrem i).2 ⟨h1, h2⟩) (by simp)
  | fuel + 1, rem, listed, hlen, hsz, hsort, hrem, hcl, S, Sf, a, w, L, R, hH, hG, he, hQ => by
    obtain ⟨g1, g2⟩ := compOps_inv hl
    refine ⟨?_, ?_⟩
    · -- something may run
      intro hnil
      exfalso
      cases rem with
      | nil => simp at hlen
      | cons r0 rest =>
        have hr0 := (hrem r0).1 (by simp)
        have : r0 ∈ Region.ready .any ops listed := by
          refine ready_iff.2 ⟨hr0.1, hr0.2, ops[r0], by simp [hr0.1], ?_⟩
          intro e he hb
          have h3 := List.all_eq_true.1 hok r0 (List.mem_range.2 hr0.1)
          simp only [Array.getElem?_eq_getElem hr0.1, Option.map_some, Option.getD_some] at h3
          have h4 := Array.all_eq_true'.1 h3 e he
          simp only [hb, Bool.not_true, Bool.false_or, decide_eq_true_eq] at h4
          cases hx : listed.getD e.on true with
          | false =>
            have : e.on ∈ r0 :: rest := (hrem e.on).2 ⟨by omega, hx⟩
            rcases List.mem_cons.1 this with h5 | h5
            · omega
            · have := (List.pairwise_cons.1 hsort).1 e.on h5
              omega
          | true =>
            have hlt : e.on < listed.size := by omega
            simp only [Array.getD_eq_getD_getElem?, Array.getElem?_eq_getElem hlt, Option.getD_some] at hx ⊢
            exact hx
        rw [hnil] at this
        simp at this
    · intro i hi
      obtain ⟨h1, h2, o, h3, h4⟩ := ready_iff.1 hi
      have himem : i ∈ rem := (hrem i).2 ⟨h1, h2⟩
      obtain ⟨l1, l2, hsplit⟩ := List.append_of_mem himem
      subst hsplit
      have hlt : ∀ r ∈ l1, r < i := fun r hr => (List.pairwise_append.1 hsort).2.2 r hr i (by simp)
      have hap : ∀ g ∈ l1.map φ, g.apart (φ i) = true := by
        intro g hg
        obtain ⟨r, hr, rfl⟩ := List.mem_map.1 hg
        refine hφ r i (hlt r hr) h1 ?_
        cases hb : ((Region.before ops).getD i 0).testBit r with
        | false => rfl
        | true =>
          have hrl := before_listed ops listed hsz hcl (i + 1) i (by omega) o h3 h4 r hb
          have hrm := ((hrem r).1 (by simp [hr]))
          have hrs : r < listed.size := by omega
          simp only [Array.getD_eq_getD_getElem?, Array.getElem?_eq_getElem hrs, Option.getD_some] at hrl hrm
          rw [hrl] at hrm
          exact absurd hrm.2 (by simp)
      simp only [List.map_append, List.map_cons] at he
      obtain ⟨ws, k1, _, Sf', k3, k4⟩ := bring_front Cl _ (φ i) _ _ (l1.map fun i => l.getD i default) (by simp) he hap
      have hli : i < l.length := by omega
      have hget : l.getD i default = l[i] := by simp [List.getD_eq_getElem?_getD, hli]
      rw [hget] at k1
      obtain ⟨o', m1, m2⟩ := g2 i l[i] (by simp)
      refine oper_sound hc R hH hG hN m1 m2 k1 (fun a' w' L' D => ?_)
      rw [← List.map_append, ← List.map_append] at k3
      have hset : ∀ k b, (listed.setIfInBounds i true).getD k b = if k = i then true else listed.getD k b := by
        intro k b
        simp only [Array.getD_eq_getD_getElem?]
        by_cases hki : k = i
        · subst hki
          rw [Array.getElem?_setIfInBounds]
          simp [show k < listed.size by omega]
        · rw [Array.getElem?_setIfInBounds_ne (fun e => hki e.symm), if_neg hki]
      have hsort' : (l1 ++ l2).Pairwise (· < ·) := by
        have := List.pairwise_append.1 hsort
        refine List.pairwise_append.2 ⟨this.1, (List.pairwise_cons.1 this.2.1).2, fun x hx y hy => this.2.2 x hx y (by simp [hy])⟩
      have hni : i ∉ l1 ++ l2 := by
        intro hm
        rcases List.mem_append.1 hm with hm | hm
        · exact Nat.lt_irrefl _ (hlt i hm)
        · exact Nat.lt_irrefl _ ((List.pairwise_cons.1 (List.pairwise_append.1 hsort).2.1).1 i hm)
      refine any_sound hc hN hl hok hφ fuel (l1 ++ l2) (listed.setIfInBounds i true) (by simp at hlen ⊢; omega) (by simpa using hsz) hsort' ?_ ?_ D.rel D.noH (hG.mono D.mono) k3 (fun a'' w'' L'' D' => hQ _ _ _ ((D.trans D').same k4.symm))
      · intro k
        rw [hset]
        by_cases hki : k = i
        · subst hki
          simp only [if_true]
          exact ⟨fun h => absurd h hni, fun h => by simp at h⟩
        · rw [if_neg hki, ← hrem k]
          simp [List.mem_append, List.mem_cons, hki]
      · intro k ok hok' hk e he hb
        rw [hset] at hk ⊢
        by_cases hki : k = i
        · subst hki
          rw [h3] at hok'
          cases hok'
          have := h4 e he hb
          split
          · rfl
          · exact this
        · rw [if_neg hki] at hk
          have := hcl k ok hok' hk e he hb
          split
          · rfl
          · exact this
end
end
end Go.Abs
