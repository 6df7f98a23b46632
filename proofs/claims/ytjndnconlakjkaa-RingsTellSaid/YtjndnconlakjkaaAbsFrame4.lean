/- The law's frame: the arguments' data are of their types. -/
import Derived.Test.YtjndnconlakjkaaAbsFrame3
set_option linter.unusedVariables false
set_option linter.unusedSimpArgs false
namespace Go.Abs

/-- A cell's type. -/
inductive TS where
  | int (k : IntKind)
  | bool
  | str
  | sl (sz : Nat) (l : List TS)

mutual
def okD : TS → D → Prop
  | .int k, .int k' n => k' = k ∧ (Lit.int k n).wf = true
  | .bool, .bool _ => True
  | .str, .str _ => True
  | .sl sz ts, .sl (.im b) sz' rows => sz' = sz ∧ (b = true → rows = []) ∧ ∀ r ∈ rows, okR ts r
  | _, _ => False
def okR : List TS → List D → Prop
  | [], [] => True
  | t :: ts, x :: r => okD t x ∧ okR ts r
  | _, _ => False
end

theorem okR_append : ∀ {ts us : List TS} {r q : List D}, okR ts r → okR us q → okR (ts ++ us) (r ++ q)
  | [], us, [], q, _, h => h
  | t :: ts, us, x :: r, q, h, h' => by
    simp only [okR, List.cons_append] at h ⊢
    exact ⟨h.1, okR_append h.2 h'⟩
  | [], _, _ :: _, _, h, _ => absurd h (by simp [okR])
  | _ :: _, _, [], _, h, _ => absurd h (by simp [okR])

def tsFs (f : TypeId → Option (List TS)) : List Field → Option (List TS)
  | [] => some []
  | x :: t => (f x.type).bind fun a => (tsFs f t).map (a ++ ·)
/-- The cells of a type. -/
def tsOf (P : Program) : Nat → TypeId → Option (List TS)
  | 0, _ => none
  | n + 1, t => match P.underlying t with
    | some .bool => some [.bool]
    | some (.int k) => some [.int k]
    | some .string => some [.str]
    | some (.slice e) => (tsOf P n e).map fun l => [.sl (P.cellsOf e) l]
    | some (.struct fs) => tsFs (tsOf P n) fs.toList
    | _ => none

section
variable {H : Type} {enc : TypeId × Value → H} {P : Program} {W : World}

theorem ok_fields {n fuel : Nat} {cs : List Value} (ih : ∀ (t : TypeId) (cs : List Value) (x : DataW H × List MemPlace) l ts, DataW.trod enc P W 0 (fun _ => true) true fuel t cs = some x → dataOf P n t x.1 = some l → tsOf P n t = some ts → okR ts l) :
    ∀ (fl : List Field) {xs : List (DataW H × List MemPlace)} {l : List D} {ts : List TS}, (fl.mapM fun f => DataW.trod enc P W 0 (fun _ => true) true fuel f.type ((cs.drop f.offset).take (P.cellsOf f.type))) = some xs →
      dataFs P n fl (xs.map (·.1)) = some l → tsFs (tsOf P n) fl = some ts → okR ts l
  | [], xs, l, ts, hx, hl, ht => by
    have : xs = [] := by simpa using hx.symm
    subst this
    simp [dataFs] at hl
    simp [tsFs] at ht
    subst hl; subst ht
    trivial
  | f :: fl, xs, l, ts, hx, hl, ht => by
    rw [List.mapM_cons] at hx
    obtain ⟨y, h1, h2⟩ := bind_some hx
    obtain ⟨t, h3, h4⟩ := bind_some h2
    cases h4
    simp only [List.map_cons, dataFs] at hl
    obtain ⟨l1, k1, k2⟩ := bind_some hl
    obtain ⟨l2, k3, rfl⟩ := map_some' k2
    simp only [tsFs] at ht
    obtain ⟨t1, j1, j2⟩ := bind_some ht
    obtain ⟨t2, j3, rfl⟩ := map_some' j2
    exact okR_append (ih _ _ _ _ _ h1 k1 j1) (ok_fields ih fl h3 k3 j3)

theorem mapM_mem {α β : Type} {f : α → Option β} : ∀ {l : List α} {r : List β}, l.mapM f = some r → ∀ y ∈ r, ∃ x ∈ l, f x = some y
  | [], r, h, y, hy => by
    have : r = [] := by simpa using h.symm
    subst this; cases hy
  | x :: t, r, h, y, hy => by
    rw [List.mapM_cons] at h
    obtain ⟨a, h1, h2⟩ := bind_some h
    obtain ⟨b, h3, h4⟩ := bind_some h2
    cases h4
    rcases List.mem_cons.1 hy with rfl | hy
    · exact ⟨x, List.mem_cons_self .., h1⟩
    · obtain ⟨z, hz, hf⟩ := mapM_mem h3 y hy
      exact ⟨z, List.mem_cons_of_mem _ hz, hf⟩

theorem ok_data : ∀ (n fuel : Nat) (t : TypeId) (cs : List Value) (x : DataW H × List MemPlace) (l : List D) (ts : List TS),
    DataW.trod enc P W 0 (fun _ => true) true fuel t cs = some x → dataOf P n t x.1 = some l → tsOf P n t = some ts → okR ts l := by
  intro n
  induction n with
  | zero => intro fuel t cs x l ts _ h; simp [dataOf] at h
  | succ n ih =>
    intro fuel t cs x l ts h hd ht
    cases fuel with
    | zero => simp [DataW.trod] at h
    | succ fuel =>
    simp only [tsOf] at ht
    split at ht
    · rename_i hu
      cases ht
      rw [DataW.trod_step] at h
      unfold DataW.trodStep at h
      rw [hu] at h
      have : ∃ b, cs = [.bool b] ∧ x = (.lit (.bool b), []) := by
        rcases cs with _ | ⟨c, _ | ⟨c2, t⟩⟩
        · simp at h
        · cases c <;> simp at h
          exact ⟨_, rfl, h.symm⟩
        · simp at h
      obtain ⟨b, rfl, rfl⟩ := this
      simp [dataOf, hu] at hd
      subst hd
      exact ⟨trivial, trivial⟩
    · rename_i k hu
      cases ht
      rw [DataW.trod_step] at h
      unfold DataW.trodStep at h
      rw [hu] at h
      have : ∃ z, cs = [.int k z] ∧ (Lit.int k z).wf = true ∧ x = (.lit (.int k z), []) := by
        rcases cs with _ | ⟨c, _ | ⟨c2, t⟩⟩
        · simp at h
        · cases c <;> simp at h
          obtain ⟨⟨rfl, hw⟩, h⟩ := h
          exact ⟨_, rfl, hw, h.symm⟩
        · simp at h
      obtain ⟨z, rfl, hw, rfl⟩ := this
      simp [dataOf, hu] at hd
      subst hd
      exact ⟨⟨rfl, hw⟩, trivial⟩
    · rename_i hu
      cases ht
      rw [DataW.trod_step] at h
      unfold DataW.trodStep at h
      rw [hu] at h
      have : ∃ z : ByteArray, cs = [.string z] ∧ x = (.lit (.string z.data.toList), []) := by
        rcases cs with _ | ⟨c, _ | ⟨c2, t⟩⟩
        · simp at h
        · cases c <;> simp at h
          exact ⟨_, rfl, h.2.symm⟩
        · simp at h
      obtain ⟨z, rfl, rfl⟩ := this
      simp [dataOf, hu] at hd
      subst hd
      exact ⟨trivial, trivial⟩
    · rename_i e hu
      obtain ⟨te, he, rfl⟩ := map_some' ht
      rcases Go.Deep.open_slice hu h with ⟨rfl, rfl⟩ | ⟨a, len, cap, m, k, Dd, Pl, rfl, hb, hl, hm, hmm, rfl, hx⟩
      · simp [dataOf, hu] at hd
        subst hd
        exact ⟨⟨rfl, fun _ => rfl, fun r hr => by cases hr⟩, trivial⟩
      · have hmc : m = cap := by simpa using hmm
        subst hmc
        unfold dataOf at hd
        rw [hu] at hd
        simp only at hd
        obtain ⟨rows, h1, rfl⟩ := map_some' hd
        refine ⟨⟨rfl, fun hb => (by cases hb), fun r hr => ?_⟩, trivial⟩
        obtain ⟨d, hd', hf⟩ := mapM_mem h1 r hr
        obtain ⟨i, hi, rfl⟩ := List.mem_map.1 hd'
        have hil := List.mem_range.1 hi
        obtain ⟨cs', _, h2⟩ := hx i (by omega)
        exact ih k e cs' _ _ _ h2 hf he
    · rename_i fs hu
      rw [DataW.trod_step] at h
      unfold DataW.trodStep at h
      rw [hu] at h
      simp only at h
      split at h
      · obtain ⟨xs, h1, rfl⟩ := map_some' h
        unfold dataOf at hd
        rw [hu] at hd
        simp only at hd
        exact ok_fields (fun t cs x l ts h1 h2 h3 => ih fuel t cs x l ts h1 h2 h3) fs.toList h1 hd ht
      · cases h
    · cases ht

/-- Data of their types, one list of cells an argument. -/
def okRs : List (List TS) → List (List D) → Prop
  | [], [] => True
  | ts :: t, r :: l => okR ts r ∧ okRs t l
  | _, _ => False
def argVs (P : Program) : List TypeId → List (List D) → List V
  | t :: ts, r :: rs => argV P t r :: argVs P ts rs
  | _, _ => []
def tsAll (P : Program) (n : Nat) : List TypeId → Option (List (List TS))
  | [] => some []
  | t :: ts => (tsOf P n t).bind fun a => (tsAll P n ts).map (a :: ·)
def dataAll {H : Type} (P : Program) (n : Nat) : List TypeId → List (DataW H) → Option (List (List D))
  | [], [] => some []
  | t :: ts, d :: ds => (dataOf P n t d).bind fun l => (dataAll P n ts ds).map (l :: ·)
  | _, _ => none

theorem ok_args {n : Nat} : ∀ {ts : List TypeId} {vs : List Value} {ds : List (DataW H)} {ps : List MemPlace} {l : List V} {tt : List (List TS)}, DataW.TrodAll enc P W 0 (fun _ => true) true ts vs ds ps → argsV P n ts ds = some l → tsAll P n ts = some tt →
    ∃ rs, dataAll P n ts ds = some rs ∧ okRs tt rs ∧ l = argVs P ts rs
  | [], vs, ds, ps, l, tt, h, hl, ht => by
    cases vs <;> cases ds <;> simp_all [DataW.TrodAll, argsV, tsAll]
    subst hl; subst ht
    exact ⟨[], rfl, trivial, rfl⟩
  | t :: ts, vs, ds, ps, l, tt, h, hl, ht => by
    cases vs with
    | nil => simp [DataW.TrodAll] at h
    | cons v vs =>
      cases ds with
      | nil => simp [DataW.TrodAll] at h
      | cons d ds =>
        obtain ⟨p, q, ⟨fuel, h1⟩, h2, rfl⟩ := h
        simp only [argsV] at hl
        obtain ⟨r, k1, k2⟩ := bind_some hl
        obtain ⟨l2, k3, rfl⟩ := map_some' k2
        simp only [tsAll] at ht
        obtain ⟨t1, j1, j2⟩ := bind_some ht
        obtain ⟨t2, j3, rfl⟩ := map_some' j2
        have ho := ok_data n fuel t _ _ _ _ h1 k1 j1
        obtain ⟨rs, g1, g2, rfl⟩ := ok_args h2 k3 j3
        exact ⟨r :: rs, by simp [dataAll, k1, g1], ⟨ho, g2⟩, rfl⟩

/-- A law's call: the arguments' types are known, and the evaluator's fuel hangs on the arguments. -/
theorem law_calls' {nm : FuncId → Option Nat} {Cl : Nat → Oracle} (hO : ∀ N, OSound P nm (Cl N)) {fid : FuncId} {f0 : Nat} {g : Func} {c : Code} (hnm : nm fid = some f0) (hf : P.funcs[fid]? = some g) (hname : (g.name == "runtime.NumGoroutine") = false) (hb : g.body = some c)
    {n base : Nat} {ts : List TypeId} {tt : List (List TS)} {args : Array Value} {ds : List (DataW H)} {ps : List MemPlace} (hA : DataW.TrodAll enc P W 0 (fun _ => true) true ts args.toList ds ps)
    (hs : ∀ t ∈ ts, simpleT P n t = true) (htt : tsAll P n ts = some tt) (hval : ∀ (j : Nat) t v, ts[j]? = some t → args[j]? = some v → Value.okWide P W .any base t v)
    {b : Bool} (heq : ∀ rs, dataAll P n ts ds = some rs → okRs tt rs → ∃ N out, Cl N f0 (argVs P ts rs) [] = some (.one (.d (.bool b)), out)) :
    Calls P fid args W fun e W' => e = .returned (.bool b) ∧ Left W W' := by
  obtain ⟨l, h1, _⟩ := args_rep (nm := nm) hA hs (fun j t v hj hv => hval j t v hj (by simpa using hv))
  obtain ⟨rs, h2, h3, rfl⟩ := ok_args hA h1 htt
  obtain ⟨N, out, h4⟩ := heq rs h2 h3
  refine law_calls (hO N) hnm hf hname hb hA hs hval (fun l' hl' => ?_)
  rw [h1] at hl'
  cases hl'
  exact ⟨out, h4⟩
end
end Go.Abs
