/- What the weights of an argument tell of its slices. -/
import Derived.Test.YtjndnconlakjkaaAbsFrame4
import GoSem.ClaimJoined
set_option linter.unusedVariables false
set_option linter.unusedSimpArgs false
namespace Go.Abs
mutual
def okWD : D → Prop
  | .sl _ _ rows => rows.length * 8 ≤ reachBytes ∧ okWRs rows
  | _ => True
def okWR : List D → Prop
  | [] => True
  | x :: t => okWD x ∧ okWR t
def okWRs : List (List D) → Prop
  | [] => True
  | r :: t => okWR r ∧ okWRs t
end
theorem okWR_app : ∀ {a b : List D}, okWR a → okWR b → okWR (a ++ b)
  | [], b, _, h => h
  | x :: t, b, h1, h2 => by
    simp only [okWR] at h1
    simp only [List.cons_append, okWR]
    exact ⟨h1.1, okWR_app h1.2 h2⟩
theorem okWRs_mem : ∀ {rows : List (List D)} {r : List D}, okWRs rows → r ∈ rows → okWR r
  | [], r, _, h => by cases h
  | x :: t, r, h1, h => by
    simp only [okWRs] at h1
    rcases List.mem_cons.1 h with h | h
    · subst h; exact h1.1
    · exact okWRs_mem h1.2 h
/-- The elements of each slice on the road have eight bytes or more. -/
def big (P : Program) : Nat → TypeId → Bool
  | 0, _ => true
  | n + 1, t => match P.underlying t with
    | some (.slice e) => decide (8 ≤ P.bytesOf e) && big P n e
    | some (.struct fs) => fs.toList.all fun f => big P n f.type
    | _ => true
section
variable {H : Type} {P : Program}
theorem weightsAll_mem {e : TypeId} : ∀ {ds : List (DataW H)} {d : DataW H} {x : Nat}, d ∈ ds → x ∈ d.weights P e → x ∈ DataW.weightsAll P e ds
  | d' :: ds, d, x, h, hx => by
    simp only [DataW.weightsAll, List.mem_append]
    rcases List.mem_cons.1 h with h | h
    · subst h; exact .inl hx
    · exact .inr (weightsAll_mem h hx)
theorem w_fields {n : Nat} (ih : ∀ (t : TypeId) (d : DataW H) l, dataOf P n t d = some l → big P n t = true → (∀ x ∈ d.weights P t, x ≤ reachBytes) → okWR l) :
    ∀ (fl : List Field) (ds : List (DataW H)) {l : List D}, dataFs P n fl ds = some l → (∀ f ∈ fl, big P n f.type = true) → (∀ x ∈ DataW.weightsEach P (fl.map (·.type)) ds, x ≤ reachBytes) → okWR l
  | [], [], l, h, _, _ => by simp [dataFs] at h; subst h; trivial
  | [], _ :: _, l, h, _, _ => by simp [dataFs] at h
  | _ :: _, [], l, h, _, _ => by simp [dataFs] at h
  | f :: fl, d :: ds, l, h, hb, hw => by
    simp only [dataFs] at h
    obtain ⟨l1, k1, k2⟩ := bind_some h
    obtain ⟨l2, k3, rfl⟩ := map_some' k2
    simp only [List.map_cons, DataW.weightsEach, List.mem_append] at hw
    exact okWR_app (ih _ _ _ k1 (hb f (List.mem_cons_self ..)) fun x hx => hw x (.inl hx)) (w_fields ih fl ds k3 (fun g hg => hb g (List.mem_cons_of_mem _ hg)) fun x hx => hw x (.inr hx))
theorem w_rows {f : DataW H → Option (List D)} : ∀ (ds : List (DataW H)) {rows : List (List D)}, ds.mapM f = some rows → (∀ d ∈ ds, ∀ l, f d = some l → okWR l) → okWRs rows ∧ rows.length = ds.length
  | [], rows, h, _ => by
    have : rows = [] := by simpa using h.symm
    subst this; exact ⟨trivial, rfl⟩
  | d :: ds, rows, h, ih => by
    rw [List.mapM_cons] at h
    obtain ⟨a, h1, h2⟩ := bind_some h
    obtain ⟨b, h3, h4⟩ := bind_some h2
    cases h4
    obtain ⟨g1, g2⟩ := w_rows ds h3 fun d hd => ih d (List.mem_cons_of_mem _ hd)
    exact ⟨⟨ih d (List.mem_cons_self ..) _ h1, g1⟩, by simp [g2]⟩
theorem w_data : ∀ (n : Nat) (t : TypeId) (d : DataW H) (l : List D), dataOf P n t d = some l → big P n t = true → (∀ x ∈ d.weights P t, x ≤ reachBytes) → okWR l := by
  intro n
  induction n with
  | zero => intro t d l h; simp [dataOf] at h
  | succ n ih =>
    intro t d l h hb hw
    unfold dataOf at h
    split at h
    · cases h; exact ⟨trivial, trivial⟩
    · cases h; exact ⟨trivial, trivial⟩
    · cases h; exact ⟨trivial, trivial⟩
    · cases h; exact ⟨⟨by simp, trivial⟩, trivial⟩
    · rename_i e elems sp hu
      obtain ⟨rows, h1, rfl⟩ := map_some' h
      simp only [big, hu, Bool.and_eq_true, decide_eq_true_eq] at hb
      unfold DataW.weights at hw
      simp only [hu] at hw
      obtain ⟨g1, g2⟩ := w_rows elems h1 fun d hd l hl => ih e d l hl hb.2 fun x hx => hw x (List.mem_cons_of_mem _ (List.mem_append_left _ (weightsAll_mem hd hx)))
      have h8 := hw _ (List.mem_cons_self ..)
      refine ⟨⟨?_, g1⟩, trivial⟩
      rw [g2]
      refine Nat.le_trans (Nat.mul_le_mul_left _ hb.1) (Nat.le_trans (Nat.mul_le_mul_right _ (Nat.le_add_right _ _)) h8)
    · rename_i fs ds hu
      simp only [big, hu] at hb
      unfold DataW.weights at hw
      simp only [hu] at hw
      refine w_fields (fun t d l => ih t d l) _ _ h (fun f hf => List.all_eq_true.1 hb f hf) ?_
      simpa using hw
    · cases h
theorem w_all {n : Nat} : ∀ {ts : List TypeId} {ds : List (DataW H)} {rs : List (List D)}, dataAll P n ts ds = some rs → (∀ t ∈ ts, big P n t = true) → (∀ x ∈ DataW.weightsEach P ts ds, x ≤ reachBytes) → ∀ r ∈ rs, okWR r
  | [], [], rs, h, _, _, r, hr => by cases h; cases hr
  | t :: ts, d :: ds, rs, h, hb, hw, r, hr => by
    simp only [dataAll] at h
    obtain ⟨a, h1, h2⟩ := bind_some h
    obtain ⟨b, h3, rfl⟩ := map_some' h2
    simp only [DataW.weightsEach, List.mem_append] at hw
    rcases List.mem_cons.1 hr with hr | hr
    · subst hr; exact w_data _ _ _ _ h1 (hb t (List.mem_cons_self ..)) fun x hx => hw x (.inl hx)
    · exact w_all h3 (fun t ht => hb t (List.mem_cons_of_mem _ ht)) (fun x hx => hw x (.inr hx)) r hr
  | [], _ :: _, rs, h, _, _, r, hr => by cases h
  | _ :: _, [], rs, h, _, _, r, hr => by cases h
end
end Go.Abs
