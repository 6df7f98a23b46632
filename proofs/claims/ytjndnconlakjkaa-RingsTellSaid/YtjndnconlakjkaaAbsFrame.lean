/- The law's frame: arguments as data, and what a call leaves of them. -/
import Derived.Test.YtjndnconlakjkaaAbsBody4
import Derived.ChangeSame
import Derived.RowKit
import Derived.Deep.Slices
set_option linter.unusedVariables false
set_option linter.unusedSimpArgs false
namespace Go.Abs

/-- The fields of a struct lie one behind the other, in so many cells. -/
def laidFrom (P : Program) : Nat → List Field → Option Nat
  | o, [] => some o
  | o, f :: t => if f.offset = o then laidFrom P (o + P.cellsOf f.type) t else none

/-- A type whose values are data: numbers, truths, strings, slices and structs of such. -/
def simpleT (P : Program) : Nat → TypeId → Bool
  | 0, _ => false
  | n + 1, t => match P.underlying t with
    | some .bool => P.cellsOf t == 1
    | some (.int _) => P.cellsOf t == 1
    | some .string => P.cellsOf t == 1
    | some (.slice e) => P.cellsOf t == 1 && decide (0 < P.cellsOf e) && simpleT P n e
    | some (.struct fs) => fs.toList.all (fun f => simpleT P n f.type) && laidFrom P 0 fs.toList == some (P.cellsOf t)
    | _ => false

theorem mapM_mono {α β : Type} {f g : α → Option β} : ∀ {l : List α} {ys : List β}, l.mapM f = some ys → (∀ i ∈ l, ∀ y, f i = some y → g i = some y) → l.mapM g = some ys
  | [], ys, h, _ => by simpa using h
  | x :: l, ys, h, hm => by
    rw [List.mapM_cons] at h ⊢
    obtain ⟨y, h1, h2⟩ := bind_some h
    obtain ⟨t, h3, h4⟩ := bind_some h2
    rw [hm x (List.mem_cons_self ..) y h1]
    show (List.mapM g l >>= fun bs => pure (y :: bs)) = some ys
    rw [mapM_mono h3 (fun i hi => hm i (List.mem_cons_of_mem _ hi))]
    exact h4

section
variable {H : Type} {enc : TypeId × Value → H} {P : Program} {W W' : World} {sp2 : Nat → Bool}

theorem cells_keep (hold : ∀ B, B < W.heap.size → W'.heap[B]? = W.heap[B]?) {b n : Nat} {a : Addr} {cs : List Value} (h : W.cells? b a n = some cs) : W'.cells? b a n = some cs := by
  unfold World.cells? at h ⊢
  split at h
  · rename_i hb
    rw [if_pos hb]
    refine mapM_mono h (fun i _ y hy => ?_)
    have hlt : (a.add i).block < W.heap.size := by
      unfold World.cell? at hy
      split at hy
      · rename_i hc; exact (Array.getElem?_eq_some_iff.1 hc).1
      · cases hy
    unfold World.cell? at hy ⊢
    rw [hold _ hlt]
    exact hy
  · cases h
theorem cells_lt {b n : Nat} {a : Addr} {cs : List Value} (hn : 0 < n) (h : W.cells? b a n = some cs) : a.block < W.heap.size := by
  unfold World.cells? at h
  split at h
  · cases n with
    | zero => omega
    | succ n =>
      rw [List.range_succ_eq_map, List.mapM_cons] at h
      obtain ⟨y, h1, _⟩ := bind_some h
      unfold World.cell? at h1
      split at h1
      · rename_i hc; exact (Array.getElem?_eq_some_iff.1 hc).1
      · cases h1
  · cases h

theorem mapM_fuel {α β : Type} {f : α → Option β} {g : Nat → α → Option β} (hg : ∀ a b i y, a ≤ b → g a i = some y → g b i = some y) : ∀ {l : List α} {ys : List β}, l.mapM f = some ys → (∀ i ∈ l, ∀ y, f i = some y → ∃ m, g m i = some y) → ∃ m, l.mapM (g m) = some ys
  | [], ys, h, _ => ⟨0, by simpa using h⟩
  | x :: l, ys, h, hm => by
    rw [List.mapM_cons] at h
    obtain ⟨y, h1, h2⟩ := bind_some h
    obtain ⟨t, h3, h4⟩ := bind_some h2
    obtain ⟨m1, k1⟩ := hm x (List.mem_cons_self ..) y h1
    obtain ⟨m2, k2⟩ := mapM_fuel hg h3 (fun i hi => hm i (List.mem_cons_of_mem _ hi))
    refine ⟨max m1 m2, ?_⟩
    rw [List.mapM_cons, hg m1 _ x y (Nat.le_max_left ..) k1]
    show (List.mapM (g (max m1 m2)) l >>= fun bs => pure (y :: bs)) = some ys
    rw [mapM_mono k2 (fun i _ y hy => hg m2 _ i y (Nat.le_max_right ..) hy)]
    exact h4

theorem trod_keep (hold : ∀ B, B < W.heap.size → W'.heap[B]? = W.heap[B]?) (hsp : ∀ b, b < W.heap.size → sp2 b = true) : ∀ (n : Nat) (t : TypeId) (fuel : Nat) (cs : List Value) (x : DataW H × List MemPlace), simpleT P n t = true →
    DataW.trod enc P W 0 (fun _ => true) true fuel t cs = some x → ∃ m, DataW.trod enc P W' 0 sp2 true m t cs = some x := by
  intro n
  induction n with
  | zero => intro t fuel cs x hs; simp [simpleT] at hs
  | succ n ih =>
    intro t fuel cs x hs h
    simp only [simpleT] at hs
    split at hs
    · rename_i hu
      cases fuel with
      | zero => simp [DataW.trod] at h
      | succ fuel =>
        refine ⟨1, ?_⟩
        rw [DataW.trod_step] at h ⊢
        unfold DataW.trodStep at h ⊢
        simp only [hu] at h ⊢
        split at h <;> simp_all
    · rename_i hu
      cases fuel with
      | zero => simp [DataW.trod] at h
      | succ fuel =>
        refine ⟨1, ?_⟩
        rw [DataW.trod_step] at h ⊢
        unfold DataW.trodStep at h ⊢
        simp only [hu] at h ⊢
        split at h <;> simp_all
    · rename_i hu
      cases fuel with
      | zero => simp [DataW.trod] at h
      | succ fuel =>
        refine ⟨1, ?_⟩
        rw [DataW.trod_step] at h ⊢
        unfold DataW.trodStep at h ⊢
        simp only [hu] at h ⊢
        split at h <;> simp_all
    · rename_i e hu
      simp only [Bool.and_eq_true, decide_eq_true_eq] at hs
      obtain ⟨⟨_, hce⟩, hse⟩ := hs
      rcases Go.Deep.open_slice hu h with ⟨rfl, rfl⟩ | ⟨a, len, cap, m, k, Dd, Pl, rfl, hb, hl, hm, hmm, rfl, hx⟩
      · refine ⟨1, ?_⟩
        rw [DataW.trod_step]; unfold DataW.trodStep; simp only [hu]
      · have hmc : m = cap := by simpa using hmm
        subst hmc
        have hx' : ∀ i, i < m → ∃ cs n, W'.cells? 0 (a.add (i * P.cellsOf e)) (P.cellsOf e) = some cs ∧ DataW.trod enc P W' 0 sp2 true n e cs = some (Dd i, Pl i) := by
          intro i hi
          obtain ⟨cs', h1, h2⟩ := hx i hi
          obtain ⟨m', h3⟩ := ih e k cs' _ hse h2
          exact ⟨cs', m', cells_keep hold h1, h3⟩
        cases hs2 : sp2 a.block with
        | true => exact Go.Deep.shut_slice_whole_cells hu hb hl hm hs2 Dd Pl hx'
        | false =>
          have hc0 : m = 0 := by
            rcases Nat.eq_zero_or_pos m with h0 | h0
            · exact h0
            · obtain ⟨cs', h1, _⟩ := hx 0 h0
              have := hsp _ (cells_lt hce h1)
              have e1 : (a.add (0 * P.cellsOf e)).block = a.block := by first | rfl | (unfold Addr.add; split <;> rfl) | (unfold Addr.add; simp)
              rw [e1, hs2] at this; cases this
          subst hc0
          obtain rfl : len = 0 := by omega
          exact Go.Deep.shut_slice_cells hu hb hl hm hs2 Dd Pl (fun i hi => by omega)
    · rename_i fs hu
      simp only [Bool.and_eq_true, List.all_eq_true] at hs
      cases fuel with
      | zero => simp [DataW.trod] at h
      | succ fuel =>
        rw [DataW.trod_step] at h
        unfold DataW.trodStep at h
        simp only [hu] at h
        split at h
        · rename_i hl
          obtain ⟨xs, h1, h2⟩ := map_some' h
          obtain ⟨m, h3⟩ := mapM_fuel (g := fun m (f : Field) => DataW.trod enc P W' 0 sp2 true m f.type ((cs.drop f.offset).take (P.cellsOf f.type))) (fun a b i y hab hy => DataW.trod_le hab hy) h1 (fun f hf y hy => ih f.type fuel _ y (hs.1 f hf) hy)
          refine ⟨m + 1, ?_⟩
          rw [DataW.trod_step]
          unfold DataW.trodStep
          simp only [hu]
          rw [if_pos hl, h3, h2]
          rfl
        · cases h
    · cases hs
end
end Go.Abs
