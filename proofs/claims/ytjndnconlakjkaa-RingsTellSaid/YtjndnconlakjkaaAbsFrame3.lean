/- The law's frame: the call at its arguments. -/
import Derived.Test.YtjndnconlakjkaaAbsFrame2
set_option linter.unusedVariables false
set_option linter.unusedSimpArgs false
namespace Go.Abs

def argV (P : Program) (t : TypeId) (l : List D) : V :=
  match P.underlying t with
  | some (.struct _) => .agg (l.map .d)
  | _ => .one (.d (l.headD .dead))

/-- The arguments as the evaluator takes them. -/
def argsV {H : Type} (P : Program) (n : Nat) : List TypeId → List (DataW H) → Option (List V)
  | [], [] => some []
  | t :: ts, d :: ds => (dataOf P n t d).bind fun l => (argsV P n ts ds).map (argV P t l :: ·)
  | _, _ => none

/-- At the start all memory is nobody's. -/
def topL (W : World) : LabF := fun B => match W.heap[B]? with | some (.cells ..) => some .imm | _ => none

section
variable {H : Type} {enc : TypeId × Value → H} {P : Program} {W W' : World} {nm : FuncId → Option Nat} {Cl : Oracle}

theorem topL_imm {B : Nat} {cur : Array Value} {e : TypeId} {fz : Nat × Nat} (h : W.heap[B]? = some (.cells cur e fz)) : topL W B = some .imm := by simp [topL, h]
theorem topL_inv {B : Nat} {l : Lab} (h : topL W B = some l) : l = .imm ∧ ∃ cur e fz, W.heap[B]? = some (.cells cur e fz) := by
  unfold topL at h
  split at h
  · rename_i c e fz hc
    simp only [Option.some.injEq] at h
    exact ⟨h.symm, c, e, fz, hc⟩
  · cases h

theorem arg_rep {n base : Nat} {t : TypeId} {v : Value} {d : DataW H} {ps : List MemPlace} (hval : Value.okWide P W .any base t v) (hs : simpleT P n t = true) (ht : DataW.Trod enc P W 0 (fun _ => true) true t v d ps) :
    ∃ l, dataOf P n t d = some l ∧ ∀ γ k, RepV nm W (topL W) γ k (argV P t l) v := by
  obtain ⟨fuel, h⟩ := ht
  obtain ⟨l, h1, h2, h3⟩ := trod_data (L := topL W) (fun B cur e fz h => topL_imm h) n fuel t _ _ hs h
  refine ⟨l, h1, fun γ k => ?_⟩
  have single : P.cellsOf t = 1 → (∀ cs, v ≠ .agg cs) → (∀ fs, P.underlying t ≠ some (.struct fs)) → RepV nm W (topL W) γ k (argV P t l) v := by
    intro hc hna hns
    have hv : v.cells = #[v] := by cases v <;> first | rfl | exact absurd rfl (hna _)
    have hav : argV P t l = .one (.d (l.headD .dead)) := by
      unfold argV
      split
      · rename_i hx; exact absurd hx (hns _)
      · rfl
    rw [hav]
    have hl : l.length = 1 := by rw [h2.1, h3, hc]
    obtain ⟨y, rfl⟩ := List.length_eq_one_iff.1 hl
    exact .one (.d (.plain (h2.2 0 y v rfl (by rw [hv]; rfl))))
  cases n with
  | zero => simp [simpleT] at hs
  | succ n =>
    simp only [simpleT] at hs
    split at hs
    · rename_i hu
      exact single (by simpa using hs) (by rintro cs rfl; simp [Value.okWide, hu, Cell.okWide, Cell.ok] at hval) (by simp [hu])
    · rename_i hu
      exact single (by simpa using hs) (by rintro cs rfl; simp [Value.okWide, hu, Cell.okWide, Cell.ok] at hval) (by simp [hu])
    · rename_i hu
      exact single (by simpa using hs) (by rintro cs rfl; simp [Value.okWide, hu, Cell.okWide, Cell.ok] at hval) (by simp [hu])
    · rename_i e hu
      simp only [Bool.and_eq_true, beq_iff_eq] at hs
      exact single hs.1.1 (by rintro cs rfl; simp [Value.okWide, hu, Cell.okWide, Cell.ok] at hval) (by simp [hu])
    · rename_i fs hu
      unfold Value.okWide at hval
      rw [hu] at hval
      obtain ⟨cs, rfl, _, _⟩ := hval
      have hav : argV P t l = .agg (l.map .d) := by unfold argV; rw [hu]
      rw [hav]
      have hc : (Value.agg cs).cells.toList = cs.toList := rfl
      rw [hc] at h2
      refine .agg (by rw [List.length_map, h2.1, Array.length_toList]) (fun j c u hj hu' => ?_)
      rw [List.getElem?_map] at hj
      obtain ⟨y, hy, rfl⟩ := map_some' hj
      exact .d (.plain (h2.2 j y u hy (by simpa using hu')))
    · cases hs

theorem args_rep {n base : Nat} : ∀ {ts : List TypeId} {vs : List Value} {ds : List (DataW H)} {ps : List MemPlace}, DataW.TrodAll enc P W 0 (fun _ => true) true ts vs ds ps → (∀ t ∈ ts, simpleT P n t = true) → (∀ (j : Nat) t v, ts[j]? = some t → vs[j]? = some v → Value.okWide P W .any base t v) →
    ∃ l, argsV P n ts ds = some l ∧ l.length = vs.length ∧ ∀ (j : Nat) x v, l[j]? = some x → vs[j]? = some v → ∀ γ k, RepV nm W (topL W) γ k x v
  | [], vs, ds, ps, h, _, _ => by
    cases vs with
    | nil =>
      cases ds with
      | nil => exact ⟨[], rfl, rfl, fun j x v h => by simp at h⟩
      | cons => simp [DataW.TrodAll] at h
    | cons => simp [DataW.TrodAll] at h
  | t :: ts, vs, ds, ps, h, hs, hv => by
    cases vs with
    | nil => simp [DataW.TrodAll] at h
    | cons v vs =>
      cases ds with
      | nil => simp [DataW.TrodAll] at h
      | cons d ds =>
        obtain ⟨p, q, h1, h2, rfl⟩ := h
        obtain ⟨l, k1, k2⟩ := arg_rep (nm := nm) (hv 0 t v rfl rfl) (hs t (List.mem_cons_self ..)) h1
        obtain ⟨ls, k3, k4, k5⟩ := args_rep h2 (fun t ht => hs t (List.mem_cons_of_mem _ ht)) (fun j t v hj hv' => hv (j + 1) t v (by simpa using hj) (by simpa using hv'))
        refine ⟨argV P t l :: ls, by simp [argsV, k1, k3], by simp [k4], ?_⟩
        intro j x u hj hu
        cases j with
        | zero => simp at hj hu; subst hj; subst hu; exact k2
        | succ j => exact k5 j x u (by simpa using hj) (by simpa using hu)

theorem top_rel {l : List V} {args : Array Value} (hl : l.length = args.size) (h : ∀ (j : Nat) x v, l[j]? = some x → args[j]? = some v → ∀ γ k, RepV nm W (topL W) γ k x v) :
    Rel nm l.length (argEnts 0 l ++ boxesEnts 0 []) ⟨args, []⟩ W (topL W) := by
  have hE : ∀ k, (∀ j, k ≠ .s j) → (argEnts 0 l ++ boxesEnts 0 [] : St).E k = V.dead := by
    intro k hk
    have : (argEnts 0 l ++ boxesEnts 0 [] : St).E k = (boxesEnts 0 [] : St).E k := by
      unfold St.E; rw [argEnts_get]
      cases k <;> first | rfl | exact absurd rfl (hk _)
    rw [this, boxes_E]
    cases k with
    | r x => cases x <;> rfl
    | b x c => cases x <;> rfl
    | _ => rfl
  refine ⟨hl.symm, rfl, ?_, ?_, ?_, ?_, ?_, ?_, ?_, ?_⟩
  · intro i
    have hs : (argEnts 0 l ++ boxesEnts 0 [] : St).E (.s i) = if i < l.length then l.getD i V.dead else V.dead := by
      unfold St.E
      rw [argEnts_get]
      simp only [Nat.zero_le, true_and, Nat.zero_add, Nat.sub_zero]
      split
      · rfl
      · rw [boxesEnts_get]; rfl
    rw [hs]
    split
    · rename_i hi
      have hia : i < args.size := by omega
      have := h i (l.getD i V.dead) args[i] (getD_some hi) (by simp [hia]) (argEnts 0 l ++ boxesEnts 0 [] : St).γ (.s i)
      simpa [Array.getD, hia] using this
    · exact .one .dead
  · intro r c x hx hxd
    rw [hE _ (by intro j h; cases h)] at hx
    simp only [V.dead, V.one.injEq] at hx
    exact absurd hx.symm hxd
  · intro r c
    rw [hE _ (by intro j h; cases h)]
    exact ⟨_, rfl⟩
  · intro r c _
    rw [hE _ (by intro j h; cases h)]; rfl
  · intro r _ hr
    rw [hE _ (by intro j h; cases h)] at hr
    simp [V.dead, boxN] at hr
  · intro B l hB
    exact (topL_inv hB).2
  · intro B B' pl o o' hB
    have := (topL_inv hB).1
    cases this
  · intro B B' r o o' hB
    have := (topL_inv hB).1
    cases this

/-- What a call leaves of the memory that was there. -/
structure Left (W W' : World) : Prop where
  os : W'.os = W.os
  output : W'.output = W.output
  heap : ∀ B, B < W.heap.size → W'.heap[B]? = W.heap[B]?

/-- A law's call: the evaluator's answer is the call's. -/
theorem law_calls (hO : OSound P nm Cl) {fid : FuncId} {f0 : Nat} {g : Func} {c : Code} (hnm : nm fid = some f0) (hf : P.funcs[fid]? = some g) (hname : (g.name == "runtime.NumGoroutine") = false) (hb : g.body = some c)
    {n base : Nat} {ts : List TypeId} {args : Array Value} {ds : List (DataW H)} {ps : List MemPlace} (hA : DataW.TrodAll enc P W 0 (fun _ => true) true ts args.toList ds ps)
    (hs : ∀ t ∈ ts, simpleT P n t = true) (hval : ∀ (j : Nat) t v, ts[j]? = some t → args[j]? = some v → Value.okWide P W .any base t v)
    {b : Bool} (heq : ∀ l, argsV P n ts ds = some l → ∃ out, Cl f0 l [] = some (.one (.d (.bool b)), out)) :
    Calls P fid args W fun e W' => e = .returned (.bool b) ∧ Left W W' := by
  obtain ⟨l, h1, h2, h3⟩ := args_rep (nm := nm) hA hs (fun j t v hj hv => hval j t v hj (by simpa using hv))
  obtain ⟨out, h4⟩ := heq l h1
  have R := top_rel (W := W) (nm := nm) (l := l) (args := args) (by rw [h2]; simp) (fun j x v hj hv => h3 j x v hj (by simpa using hv))
  have hF := hO h4 hnm R (fun B q o hB => by have := (topL_inv hB).1; cases this) (fun B i o hB => by have := (topL_inv hB).1; cases this)
  have hname' : ¬ g.name = "runtime.NumGoroutine" := by simpa using hname
  have hrun : (callFunc fid args).run P W = .ok (.enter fid args) W := by simp [callFunc, hf, hname', hb]
  unfold FnTo at hF
  rw [hrun] at hF
  refine Calls.mono hF ?_
  rintro e W' ⟨v, rfl, L', hm, _, hv⟩
  have hvb : v = .bool b := hv.one_inv.bool_inv
  subst hvb
  refine ⟨rfl, hm.os, hm.output, fun B hB => ?_⟩
  cases hL : topL W B with
  | none => exact (hm.none B hB hL).2
  | some l =>
    obtain ⟨rfl, _⟩ := topL_inv hL
    exact (hm.imm B hL).2

theorem trodAll_keep {n : Nat} {sp2 : Nat → Bool} (hold : ∀ B, B < W.heap.size → W'.heap[B]? = W.heap[B]?) (hsp : ∀ b, b < W.heap.size → sp2 b = true) : ∀ {ts : List TypeId} {vs : List Value} {ds : List (DataW H)} {ps : List MemPlace},
    (∀ t ∈ ts, simpleT P n t = true) → DataW.TrodAll enc P W 0 (fun _ => true) true ts vs ds ps → DataW.TrodAll enc P W' 0 sp2 true ts vs ds ps
  | [], vs, ds, ps, _, h => by
    cases vs <;> cases ds <;> simp_all [DataW.TrodAll]
  | t :: ts, vs, ds, ps, hs, h => by
    cases vs with
    | nil => simp [DataW.TrodAll] at h
    | cons v vs =>
      cases ds with
      | nil => simp [DataW.TrodAll] at h
      | cons d ds =>
        obtain ⟨p, q, ⟨fuel, h1⟩, h2, rfl⟩ := h
        obtain ⟨m, h3⟩ := trod_keep hold hsp n t fuel _ _ (hs t (List.mem_cons_self ..)) h1
        exact ⟨p, q, ⟨m, h3⟩, trodAll_keep hold hsp (fun t ht => hs t (List.mem_cons_of_mem _ ht)) h2, rfl⟩

/-- A law's answer, as its row has it. -/
theorem law_post {f : Func} {s : ChangeSpec} {apart fresh handsOn again : Bool} {args : Array Value} {ds gs : List (DataW H)} {before : List MemPlace} {n : Nat} {b : Bool} {tb : TypeId}
    (hW : DataW.Whole enc P f.params.toList s.vars apart W args.toList ds gs before) (hvars : s.vars = []) (hs : ∀ t ∈ f.params.toList, simpleT P n t = true)
    (hr : f.resultTypes = #[tb]) (htb : P.underlying tb = some .bool) (hres : (s.fn H (ds ++ gs)).results = [.lit (.bool b)]) (hargs : (s.fn H (ds ++ gs)).args = ds) (hgv : (s.fn H (ds ++ gs)).vars = [])
    (hl : Left W W') : s.post enc P f apart fresh handsOn again W args (.bool b) W' := by
  have hW0 := hW
  obtain ⟨p, q, hA, hV, rfl, hz, hn⟩ := hW
  rw [hvars] at hV
  have hq : q = [] ∧ gs = [] := by
    cases gs with
    | nil => exact ⟨by simpa [DataW.TrodVars] using hV, rfl⟩
    | cons => simp [DataW.TrodVars] at hV
  obtain ⟨rfl, rfl⟩ := hq
  have hlt : ∀ p' ∈ p ++ [], p'.block < W.heap.size := fun p' hp => hW0.lt p' hp
  have keepF := fun (sp2 : Nat → Bool) (hsp : ∀ b, b < W.heap.size → sp2 b = true) => trodAll_keep (sp2 := sp2) hl.heap hsp hs hA
  have resT : ∀ (bb : Nat) (sp : Nat → Bool) (hd : Bool), DataW.TrodAll enc P W' bb sp hd f.resultTypes.toList ((Value.bool b).resultList f.resultTypes.size) [.lit (.bool b)] [] := by
    intro bb sp hd
    rw [hr]
    exact ⟨[], [], ⟨1, by simp [DataW.trod, Value.cells, htb]⟩, rfl, rfl⟩
  have hv0 : ∀ sp, DataW.TrodVars enc P W' sp s.vars (s.fn H (ds ++ [])).vars [] := by
    intro sp; rw [hvars, hgv]; rfl
  refine ⟨ds, [], p ++ [], [], p, [], hW0, ?_, ?_, hv0 _, ?_, fun _ => ⟨?_, ?_⟩⟩
  · rw [hres]; exact resT _ _ _
  · rw [hargs]; exact keepF _ (fun b hb => by simpa using hb)
  · refine ⟨hl.os, hl.output, fun i hi => ?_⟩
    rw [hl.heap i hi]
    split
    · rename_i h1 h2; rw [h1] at h2; cases h2; exact ⟨rfl, rfl, rfl, fun _ _ => rfl⟩
    · rename_i h1 h2; rw [h1] at h2; cases h2; exact .inr ⟨rfl, rfl⟩
    · rfl
  · intro j t r h1 h2
    rw [hr] at h1 h2
    cases j with
    | zero =>
      simp [Value.resultList] at h1 h2
      subst h1; subst h2
      simp [Value.okWide, htb, Cell.okWide, Cell.ok]
    | succ j => simp [Value.resultList] at h2
  · have hAll := Go.ChangeShapes.trodAll_append (keepF (fun _ => true) (fun _ _ => rfl)) (resT 0 (fun _ => true) true)
    refine ⟨_, [], _, ⟨_, [], hAll, (by rw [hvars]; rfl), rfl, ?_, ?_⟩, ?_⟩
    · intro b' off hp
      have hmem : MemPlace.cell b' off ∈ p ++ [] := by simpa using hp
      have hfz := hz b' off hmem
      have hb := hlt _ hmem
      have hb' : b' < W.heap.size := hb
      unfold World.frozen? at hfz ⊢
      simp only at hfz ⊢
      rw [hl.heap b' hb']
      exact hfz
    · intro ha
      have := hn ha
      simpa using this
    · intro p' hp _
      simpa using hp
end
end Go.Abs
