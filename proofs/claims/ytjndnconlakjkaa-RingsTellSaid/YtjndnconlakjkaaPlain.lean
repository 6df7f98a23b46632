/- The contracts of the functions of rings and of its reference, in plain data. -/
import Derived.Test.YtjndnconlakjkaaEqs
import Derived.Test.YtjndnconlakjkaaAbsTo
import Derived.Test.YtjndnconlakjkaaAbsMid
set_option maxRecDepth 100000
set_option linter.unusedSimpArgs false
set_option linter.unusedVariables false
set_option linter.unusedVariables false
set_option linter.unusedSimpArgs false
namespace Go.Proofs.Ytjndnconlakjkaa
open Go Go.Abs

structure V4 where
  k : Int
  n : Int
  s : List UInt8
  t : Bool
  l : List Int
  deriving DecidableEq
structure Let where
  b : List UInt8
  v : V4
  deriving DecidableEq
def encI (n : Int) : List D := [.int .i64 n]
def cV (v : V4) : List D := [.int .i64 v.k, .int .i64 v.n, .str v.s, .sl (.im v.t) 1 (v.l.map encI)]
def cL (x : Let) : List D := .str x.b :: cV x.v
def eqV (a b : V4) : Bool := a.k == b.k && (a.n == b.n && (a.s == b.s && a.l == b.l))
def eqL (a b : Let) : Bool := a.b == b.b && eqV a.v b.v
def zV : V4 := ⟨0, 0, [], true, []⟩
def zL : Let := ⟨[], zV⟩

theorem take_I (n : Int) : List.take 1 (encI n) = encI n := rfl
theorem take_L (x : Let) : List.take 5 (cL x) = cL x := rfl
theorem drop0 {α : Type} (l : List α) : List.drop 0 l = l := rfl
theorem take_V (x : Let) : List.take 4 (List.drop 1 (cL x)) = cV x.v := rfl
theorem len_L (x : Let) : (cL x).length = 5 := rfl
theorem len_I (x : Int) : (encI x).length = 1 := rfl
theorem dec_I (n : Int) : decRow [.int .i64] (encI n) = some (n, ()) := by simp [encI, decRow, decD]
theorem dec_L (x : Let) : decRow [.str, .int .i64, .int .i64, .str, .im 1] (cL x) = some (x.b, x.v.k, x.v.n, x.v.s, (x.v.t, x.v.l.map encI), ()) := by simp [cL, cV, decRow, decD]
theorem dec_V (x : V4) : decRow [.int .i64, .int .i64, .str, .im 1] (cV x) = some (x.k, x.n, x.s, (x.t, x.l.map encI), ()) := by simp [cV, decRow, decD]
theorem dec_b (x : Let) : decRow [.str] ((cL x).take 1) = some (x.b, ()) := by simp [cL, cV, decRow, decD]

abbrev Ct (n : Nat) : Oracle := evN tab (fun _ _ _ => none) n
def bR (b : Bool) : V × List (List C) := (.one (.d (.bool b)), [])
def iR (b : Int) : V × List (List C) := (.one (.d (.int .i64 b)), [])
def vA (v : V4) : V := .agg [.d (.int .i64 v.k), .d (.int .i64 v.n), .d (.str v.s), .d (.sl (.im v.t) 1 (v.l.map encI))]
def lA (x : Let) : V := .agg [.d (.str x.b), .d (.int .i64 x.v.k), .d (.int .i64 x.v.n), .d (.str x.v.s), .d (.sl (.im x.v.t) 1 (x.v.l.map encI))]
def mA (t : Bool) (xs : List Let) : V := .one (.d (.sl (.im t) 5 (xs.map cL)))
def mO (xs : List Let) : V := .one (.d (.sl .own 5 (xs.map cL)))
def rA (t : Bool) (xs : List Let) (f m : Int) : V := .agg [.d (.sl (.im t) 5 (xs.map cL)), .d (.int .i64 f), .d (.int .i64 m)]
def rO (xs : List Let) (f m : Int) : V := .agg [.d (.sl .own 5 (xs.map cL)), .d (.int .i64 f), .d (.int .i64 m)]

section
variable {R : Type}
theorem res_b (b : Bool) (K) : tRes (R := R) (.val (.one (.bool)) []) (some (bR b)) K = K (b, ()) := rfl
theorem res_i (b : Int) (K) : tRes (R := R) (.val (.one (.int .i64)) []) (some (iR b)) K = K (b, ()) := by simp [tRes, iR, decR, decV, decD, decBs]
theorem res_v (v : V4) (K) : tRes (R := R) (.val (.agg [.int .i64, .int .i64, .str, .im 1]) []) (some (vA v, [])) K = K ((v.k, v.n, v.s, (v.t, v.l.map encI), ()), ()) := by simp [tRes, vA, decR, decV, decD, decBs, dataL, decRow]
theorem res_l (x : Let) (K) : tRes (R := R) (.val (.agg [.str, .int .i64, .int .i64, .str, .im 1]) []) (some (lA x, [])) K = K ((x.b, x.v.k, x.v.n, x.v.s, (x.v.t, x.v.l.map encI), ()), ()) := by simp [tRes, lA, decR, decV, decD, decBs, dataL, decRow]
theorem res_ints (t : Bool) (l : List (List D)) (K) : tRes (R := R) (.val (.one (.im 1)) []) (some (.one (.d (.sl (.im t) 1 l)), [])) K = K ((t, l), ()) := by simp [tRes, decR, decV, decD, decBs]
theorem res_m (t : Bool) (xs : List Let) (K) : tRes (R := R) (.val (.one (.im 5)) []) (some (mA t xs, [])) K = K ((t, xs.map cL), ()) := by simp [tRes, mA, decR, decV, decD, decBs]
theorem res_ms (t : Bool) (xs : List Let) (K) : tRes (R := R) (.val (.one (.sl 5)) []) (some (mA t xs, [])) K = K ((.im t, xs.map cL), ()) := by simp [tRes, mA, decR, decV, decD, decBs]
theorem res_mo (xs : List Let) (K) : tRes (R := R) (.val (.one (.sl 5)) []) (some (mO xs, [])) K = K ((.own, xs.map cL), ()) := by simp [tRes, mO, decR, decV, decD, decBs]
theorem res_r (t : Bool) (xs : List Let) (f m : Int) (K) : tRes (R := R) (.val (.agg [.im 5, .int .i64, .int .i64]) []) (some (rA t xs f m, [])) K = K (((t, xs.map cL), f, m, ()), ()) := by simp [tRes, rA, decR, decV, decD, decBs, dataL, decRow]
theorem res_rs (t : Bool) (xs : List Let) (f m : Int) (K) : tRes (R := R) (.val (.agg [.sl 5, .int .i64, .int .i64]) []) (some (rA t xs f m, [])) K = K (((.im t, xs.map cL), f, m, ()), ()) := by simp [tRes, rA, decR, decV, decD, decBs, dataL, decRow]
theorem res_ro (xs : List Let) (f m : Int) (K) : tRes (R := R) (.val (.agg [.sl 5, .int .i64, .int .i64]) []) (some (rO xs f m, [])) K = K (((.own, xs.map cL), f, m, ()), ()) := by simp [tRes, rO, decR, decV, decD, decBs, dataL, decRow]
end

theorem Ct_of {f : Nat} {k : KFunc} {an : Ann} {vs : List V} {bs : List (List C)} {r : V × List (List C)} {N n : Nat} (hT : tab f = some k.fn) (hn : N + 1 ≤ n)
    (h : ∀ n, N ≤ n → evBodyA an (Ct n) n k vs bs = some r) : Ct n f vs bs = some r := by
  cases n with
  | zero => omega
  | succ n =>
    show (match tab f with | some fn => evBody (Ct n) n fn vs bs | none => none) = some r
    rw [hT]
    exact evBodyA_inv (h n (by omega))

theorem drop_cons {α : Type} {l : List α} {j : Nat} (h : j < l.length) : l.drop j = l[j] :: l.drop (j + 1) := List.drop_eq_getElem_cons h
theorem next_i {j : Nat} (h : j < 9223372036854775807) : IntKind.wrap .i64 ((j : Int) + 1) = ((j + 1 : Nat) : Int) := by
  rw [wrap_i64 (by omega) (by omega)]; omega
theorem plain_ints (l : List Int) : plainRs (l.map encI) = l.map encI := by
  rw [plainRs_eq]
  simp [encI, plainD]
theorem plain_lets (l : List Let) : plainRs (l.map cL) = l.map cL := by
  rw [plainRs_eq]
  simp [cL, cV, plainD]
theorem whole_eq (l : List (List D)) : whole l = l := by simp [whole]
theorem ne_len {a b : Nat} (h : a ≠ b) : ((a : Int) != (b : Int)) = true := by simp only [bne_iff_ne, ne_eq]; omega
theorem eq_len {a b : Nat} (h : a = b) : ((a : Int) != (b : Int)) = false := by subst h; simp
theorem lt_len {a b : Nat} (h : a < b) : decide ((a : Int) < (b : Int)) = true := by simp only [decide_eq_true_eq]; omega
theorem nlt_len {a b : Nat} (h : ¬ a < b) : decide ((a : Int) < (b : Int)) = false := by simp only [decide_eq_false_iff_not]; omega

/-- Sizes. -/
def okV (M : Nat) (v : V4) : Prop := (v.t = true → v.l = []) ∧ v.l.length ≤ M
def okM (M : Nat) (xs : List Let) : Prop := xs.length ≤ 80 ∧ ∀ x ∈ xs, okV M x.v

variable {M : Nat}

/- reparteeref1.SameNums -/
theorem sameNums_loop (Cl : Oracle) (n : Nat) (t t' : Bool) (xs ys : List Int) (hl : xs.length = ys.length) (hb : xs.length ≤ 17592186044416) : ∀ (m j : Nat), j ≤ xs.length → xs.length - j < m →
    h29_0 Cl n [] m (s29_0_0 t (xs.map encI) t' (ys.map encI) (j : Int)) = some (bR (xs.drop j == ys.drop j))
  | 0, j, _, h => by omega
  | m + 1, j, hj, hm => by
    rw [ph29_0_0]
    by_cases hlt : j < xs.length
    · have hly : j < ys.length := by omega
      have ih := sameNums_loop Cl n t t' xs ys hl hb m (j + 1) (by omega) (by omega)
      rw [drop_cons hlt, drop_cons hly, List.cons_beq_cons]
      simp only [natI_eq, List.length_map, lt_len hlt, cond_true, asI_nat, qOpt_some, List.getElem?_map, List.getElem?_eq_getElem hlt, List.getElem?_eq_getElem hly, Option.map_some, take_I, len_I, tRow_eq _ (dec_I _), next_i (j := j) (by omega), ih]
      by_cases he : xs[j] = ys[j]
      · simp [he, bR]
      · have h1 : (xs[j] != ys[j]) = true := by simp [he]
        have h2 : (xs[j] == ys[j]) = false := by simp [he]
        simp [h1, h2, bR]
    · have : j = xs.length := by omega
      subst this
      simp [natI_eq, bR, hl]
theorem sameNums {n : Nat} (hM : M ≤ 17592186044416) (hn : M + 101 ≤ n) (t t' : Bool) (xs ys : List Int) (hb : xs.length ≤ M) : Ct n 29 [.one (.d (.sl (.im t) 1 (xs.map encI))), .one (.d (.sl (.im t') 1 (ys.map encI)))] [] = some (bR (xs == ys)) := by
  refine Ct_of (an := an29) rfl hn fun n hn => ?_
  rw [p29]
  by_cases hl : xs.length = ys.length
  · have := sameNums_loop (Ct n) n t t' xs ys hl (by omega) n 0 (by omega) (by omega)
    simp only [List.drop_zero] at this
    simp only [natI_eq, List.length_map, eq_len hl, cond_false]
    exact this
  · have : (xs == ys) = false := by
      cases h : xs == ys with
      | false => rfl
      | true => exact absurd (by rw [beq_iff_eq.1 h]) hl
    simp only [natI_eq, List.length_map, ne_len hl, this, bR, cond_true]

/- reparteeref1.SameValue -/
theorem sameValue {n : Nat} (hM : M ≤ 17592186044416) (hn : M + 102 ≤ n) (a b : V4) (hb : a.l.length ≤ M) : Ct n 25 [vA a, vA b] [] = some (bR (eqV a b)) := by
  refine Ct_of (an := an25) rfl hn fun n hn => ?_
  unfold vA
  rw [p25]
  simp only [sameNums hM hn a.t b.t a.l b.l hb, res_b]
  unfold eqV
  cases a.k == b.k <;> cases a.n == b.n <;> cases a.s == b.s <;> rfl

/- data.Same -/
theorem dataSame_loop (Cl : Oracle) (n : Nat) (a0 a1 : Int) (a2 : List UInt8) (t t' : Bool) (ys xs : List Int) (hl : xs.length = ys.length) (hb : xs.length ≤ 17592186044416) : ∀ (m j : Nat), j ≤ xs.length → xs.length - j < m →
    h23_0 Cl n [] m (s23_0_0 a0 a1 a2 t (ys.map encI) t' (xs.map encI) (xs.length : Int) (j : Int)) = some (bR (xs.drop j == ys.drop j))
  | 0, j, _, h => by omega
  | m + 1, j, hj, hm => by
    rw [ph23_0_0]
    by_cases hlt : j < xs.length
    · have hly : j < ys.length := by omega
      have ih := dataSame_loop Cl n a0 a1 a2 t t' ys xs hl hb m (j + 1) (by omega) (by omega)
      rw [drop_cons hlt, drop_cons hly, List.cons_beq_cons]
      simp only [natI_eq, List.length_map, lt_len hlt, cond_true, asI_nat, qOpt_some, List.getElem?_map, List.getElem?_eq_getElem hlt, List.getElem?_eq_getElem hly, Option.map_some, take_I, len_I, tRow_eq _ (dec_I _), next_i (j := j) (by omega), ih]
      by_cases he : xs[j] = ys[j]
      · simp [he, bR]
      · have h1 : (xs[j] != ys[j]) = true := by simp [he]
        have h2 : (xs[j] == ys[j]) = false := by simp [he]
        simp [h1, h2, bR]
    · have : j = xs.length := by omega
      subst this
      simp [natI_eq, bR, hl]
theorem bne_b {α : Type} [BEq α] (a b : α) : (a != b) = !(a == b) := rfl
theorem dataSame {n : Nat} (hM : M ≤ 17592186044416) (hn : M + 101 ≤ n) (a b : V4) (hb : a.l.length ≤ M) : Ct n 23 [vA a, vA b] [] = some (bR (eqV a b)) := by
  refine Ct_of (an := an23) rfl hn fun n hn => ?_
  unfold vA
  rw [p23]
  unfold eqV
  simp only [bne_b (α := Int) a.k, bne_b (α := Int) a.n]
  by_cases hl : a.l.length = b.l.length
  · have := dataSame_loop (Ct n) n b.k b.n b.s b.t a.t b.l a.l hl (by omega) n 0 (by omega) (by omega)
    simp only [List.drop_zero] at this
    have this : h23_0 (Ct n) n [] n (s23_0_0 b.k b.n b.s b.t (b.l.map encI) a.t (a.l.map encI) (a.l.length : Int) 0) = _ := this
    simp only [natI_eq, List.length_map, eq_len hl, cond_false, this]
    cases a.k == b.k <;> cases a.n == b.n <;> cases a.s == b.s <;> rfl
  · have : (a.l == b.l) = false := by
      cases h : a.l == b.l with
      | false => rfl
      | true => exact absurd (by rw [beq_iff_eq.1 h]) hl
    simp only [natI_eq, List.length_map, ne_len hl, cond_true, this]
    cases a.k == b.k <;> cases a.n == b.n <;> cases a.s == b.s <;> rfl

/- reparteeref36.none -/
theorem noneL {n : Nat} (hM : M ≤ 17592186044416) (hn : M + 103 ≤ n) (x : Let) (hb : x.v.l.length ≤ M) : Ct n 24 [lA x] [] = some (bR (eqL x zL)) := by
  refine Ct_of (an := an24) rfl hn fun n hn => ?_
  unfold lA
  rw [p24]
  have := sameValue hM hn x.v zV hb
  simp only [vA, zV, List.map_nil] at this
  simp only [this, res_b]
  unfold eqL
  show (bif x.b == [] then _ else _) = some (bR (x.b == [] && eqV x.v zV))
  cases x.b == [] <;> rfl

/- slices.Clone of numbers; rings.own -/
theorem clone1 {n : Nat} (hM : M ≤ 17592186044416) (hn : 1 ≤ n) (t : Bool) (l : List Int) (ht : t = true → l = []) (hb : l.length ≤ M) : Ct n 30 [.one (.d (.sl (.im t) 1 (l.map encI)))] [] = some (.one (.d (.sl (.im t) 1 (l.map encI))), []) := by
  refine Ct_of (an := an30) (N := 0) rfl hn fun n hn => ?_
  rw [p30]
  cases t with
  | true => simp [ht rfl]
  | false =>
    have : decide ((0 + l.length) * 8 ≤ 140737488355328) = true := by simp only [decide_eq_true_eq]; omega
    simp only [cond_false, List.length_map, this, cond_true, List.nil_append, plain_ints]
theorem ownL {n : Nat} (hM : M ≤ 17592186044416) (hn : 2 ≤ n) (x : Let) (hx : okV M x.v) : Ct n 26 [lA x] [] = some (lA x, []) := by
  refine Ct_of (an := an26) (N := 1) rfl hn fun n hn => ?_
  unfold lA
  rw [p26]
  simp only [clone1 hM hn x.v.t x.v.l hx.1 hx.2, res_ints]
/- reparteeref1.CopyValue -/
def cpV (v : V4) : V4 := { v with t := v.l.isEmpty }
def cpL (x : Let) : Let := { x with v := cpV x.v }
theorem copyV {n : Nat} (hM : M ≤ 17592186044416) (hn : 1 ≤ n) (v : V4) (hx : v.l.length ≤ M) : Ct n 28 [vA v] [] = some (vA (cpV v), []) := by
  refine Ct_of (an := an28) (N := 0) rfl hn fun n hn => ?_
  unfold vA
  rw [p28]
  have : decide (v.l.length * 8 ≤ 140737488355328) = true := by simp only [decide_eq_true_eq]; omega
  have hle : decide (0 + v.l.length ≤ v.l.length) = true := by simp
  simp only [List.length_map, this, cond_true, hle, whole_eq, plain_ints, beq_self_eq_true, Bool.and_self, Bool.or_true]
  cases hv : v.l with
  | nil => simp [cpV, hv]
  | cons a t => simp [cpV, hv]
end Go.Proofs.Ytjndnconlakjkaa

set_option maxRecDepth 100000
set_option linter.unusedVariables false
set_option linter.unusedSimpArgs false
namespace Go.Proofs.Ytjndnconlakjkaa
open Go Go.Abs
variable {M : Nat}

theorem le_dec {a b : Nat} (h : a ≤ b) : decide (a ≤ b) = true := decide_eq_true h
theorem set0 {α : Type} (a b : α) : List.set [a] 0 b = [b] := rfl
theorem mem_get {α : Type} {P : α → Prop} {l : List α} (h : ∀ x ∈ l, P x) {j : Nat} (hj : j < l.length) : P l[j] := h _ (List.getElem_mem hj)
theorem len_dL (x : Let) : (List.drop 1 (cL x)).length = 4 := rfl
theorem dle14 : decide (1 ≤ 5) = true := rfl
theorem dle44 : decide (4 ≤ 4) = true := rfl
theorem dle55 : decide (5 ≤ 5) = true := rfl
theorem snoc_map (acc : List Let) (x : Let) : acc.map cL ++ [cL x] = (acc ++ [x]).map cL := by simp

/- reparteeref20.CopyMail -/
theorem copyMail_loop {n : Nat} (hM : M ≤ 17592186044416) (hn : 1 ≤ n) (t : Bool) (xs : List Let) (hx : okM M xs) : ∀ (m j : Nat) (acc : List Let), j ≤ xs.length → xs.length - j < m → acc.length = j →
    h21_0 (Ct n) n [] m (s21_0_2 t (xs.map cL) (acc.map cL) (j : Int)) = some (mO (acc ++ (xs.drop j).map cpL), [])
  | 0, j, _, _, h, _ => by omega
  | m + 1, j, acc, hj, hm, ha => by
    rw [ph21_0_2]
    by_cases hlt : j < xs.length
    · have hl : xs.length ≤ 80 := hx.1
      have ih := copyMail_loop hM hn t xs hx m (j + 1) (acc ++ [cpL xs[j]]) (by omega) (by omega) (by simp [ha])
      have hc := copyV hM hn xs[j].v (mem_get hx.2 hlt).2
      unfold vA at hc
      have hb : decide ((acc.length + 1) * 72 ≤ 140737488355328) = true := le_dec (by omega)
      rw [drop_cons hlt]
      simp only [natI_eq, List.length_map, lt_len hlt, cond_true, asI_nat, qOpt_some, List.getElem?_map, List.getElem?_eq_getElem hlt, Option.map_some, drop0, take_V, len_L, len_dL, Nat.reduceLeDiff, decide_true, tRow_eq _ (dec_b _), tRow_eq _ (dec_V _), hc, next_i (j := j) (by omega)]
      have hr : ∀ K, tRes (R := V × List (List C)) (.val (.agg [.int .i64, .int .i64, .str, .im 1]) []) (some (vA (cpV xs[j].v), [])) K = _ := fun K => res_v _ K
      unfold vA at hr
      simp only [hr, hb, beq_self_eq_true, Bool.and_self, cond_true, set0]
      have : ∀ (a : List (List D)), a ++ [[D.str xs[j].b, D.int .i64 (cpV xs[j].v).k, D.int .i64 (cpV xs[j].v).n, D.str (cpV xs[j].v).s, D.sl (.im (cpV xs[j].v).t) 1 ((cpV xs[j].v).l.map encI)]] = a ++ [cL (cpL xs[j])] := fun _ => rfl
      simp only [this, snoc_map, ih]
      simp only [List.map_cons, List.append_assoc, List.cons_append, List.nil_append]
    · have : j = xs.length := by omega
      subst this
      simp [natI_eq, mO]
theorem copyMail12 (Cl : Oracle) (n : Nat) (t : Bool) (a b : List (List D)) (i : Int) : ∀ (m : Nat), 1 ≤ m → h21_0 Cl n [] m (s21_0_1 t a b i) = h21_0 Cl n [] m (s21_0_2 t a b i)
  | m + 1, _ => (ph21_0_1 Cl n m t a b i).trans (ph21_0_2 Cl n m t a b i).symm
theorem copyMail0 {n : Nat} (hM : M ≤ 17592186044416) (hn1 : 1 ≤ n) (t : Bool) (xs : List Let) (hx : okM M xs) (m : Nat) (hm : 99 ≤ m) : h21_0 (Ct n) n [] (m + 1) (s21_0_0 t (xs.map cL) true [] 0) = some (if xs = [] then mA true [] else mO (xs.map cpL), []) := by
  rw [ph21_0_0]
  cases xs with
  | nil =>
    have h0 : decide ((0 : Int) < natI ([] : List (List D)).length) = false := rfl
    simp only [List.map_nil, h0, cond_false, if_true, mA]
  | cons x xs =>
    have hl : (x :: xs).length ≤ 80 := hx.1
    simp only [List.length_cons] at hl
    have hc := copyV hM hn1 x.v (hx.2 x (List.mem_cons_self ..)).2
    unfold vA at hc
    have hr : ∀ K, tRes (R := V × List (List C)) (.val (.agg [.int .i64, .int .i64, .str, .im 1]) []) (some (vA (cpV x.v), [])) K = _ := fun K => res_v _ K
    unfold vA at hr
    have h2 := copyMail_loop hM hn1 t (x :: xs) hx m 1 [cpL x] (by simp) (by simp; omega) rfl
    have h0 : decide ((0 : Int) < natI ((x :: xs).map cL).length) = true := by rw [natI_eq, decide_eq_true_eq]; simp only [List.map_cons, List.length_cons]; omega
    have a0 : asI 0 = some 0 := rfl
    have hrow : [D.str x.b, D.int .i64 (cpV x.v).k, D.int .i64 (cpV x.v).n, D.str (cpV x.v).s, D.sl (.im (cpV x.v).t) 1 ((cpV x.v).l.map encI)] = cL (cpL x) := rfl
    have hw : IntKind.wrap .i64 (0 + 1) = ((1 : Nat) : Int) := by rw [wrap_i64 (by omega) (by omega)]; rfl
    simp only [List.map_cons, List.map_nil] at h0 h2
    simp only [List.map_cons, h0, cond_true, a0, qOpt_some, List.getElem?_cons_zero, drop0, len_L, len_dL, take_V, Nat.reduceLeDiff, decide_true, tRow_eq _ (dec_b _), tRow_eq _ (dec_V _), hc, hr, Bool.and_self, hrow]
    rw [hw, copyMail12 _ _ _ _ _ _ m (by omega), h2]
    simp only [reduceCtorEq, if_false, List.map_cons, List.drop_succ_cons, List.drop_zero, List.cons_append, List.nil_append]
theorem copyMail {n : Nat} (hM : M ≤ 17592186044416) (hn : M + 102 ≤ n) (t : Bool) (xs : List Let) (hx : okM M xs) : Ct n 21 [mA t xs] [] = some (if xs = [] then mA true [] else mO (xs.map cpL), []) := by
  refine Ct_of (an := an21) (N := M + 101) rfl hn fun n hn => ?_
  have : ∀ m, 100 ≤ m → h21_0 (Ct n) n [] m (s21_0_0 t (xs.map cL) true [] 0) = some (if xs = [] then mA true [] else mO (xs.map cpL), []) := by
    intro m hm
    cases m with
    | zero => omega
    | succ m => exact copyMail0 hM (by omega) t xs hx m (by omega)
  have := this n (by omega)
  unfold mA at this ⊢
  rw [p21]
  exact this
end Go.Proofs.Ytjndnconlakjkaa

set_option maxRecDepth 100000
set_option linter.unusedVariables false
set_option linter.unusedSimpArgs false
namespace Go.Proofs.Ytjndnconlakjkaa
open Go Go.Abs
variable {M : Nat}

theorem rset_eq {R : List (List D)} {i : Nat} {row : List D} (h : R[i]? = some row) (c : Nat) (z : D) : rset R i c z = R.set i (row.set c z) := by
  unfold rset
  rw [List.getD_eq_getElem?_getD, h]; rfl
theorem rset_chain {R : List (List D)} {i : Nat} {row : List D} (hi : i < R.length) (c : Nat) (z : D) : rset (R.set i row) i c z = R.set i (row.set c z) := by
  rw [rset_eq (row := row) (by simp [hi]), List.set_set]
theorem rset5 {R : List (List D)} {i : Nat} {x : Let} (z0 z1 z2 z3 z4 : D) (h : R[i]? = some (cL x)) :
    rset (rset (rset (rset (rset R (0 + i) 0 z0) (0 + i) (0 + 1) z1) (0 + i) (0 + 1 + 1) z2) (0 + i) (0 + 1 + 1 + 1) z3) (0 + i) (0 + 1 + 1 + 1 + 1) z4 = R.set i [z0, z1, z2, z3, z4] := by
  have hi : i < R.length := (List.getElem?_eq_some_iff.1 h).1
  simp only [Nat.zero_add]
  rw [rset_eq h, rset_chain hi, rset_chain hi, rset_chain hi, rset_chain hi]
  rfl
theorem set_self {xs : List Let} {i : Nat} (h : i < xs.length) : (xs.map cL).set i (cL xs[i]) = xs.map cL := by
  apply List.ext_getElem?
  intro j
  rw [List.getElem?_set]
  split
  · rename_i e; subst e; simp [h]
  · rfl

/- slices.Clone of letters -/
theorem clone5 {n : Nat} (hn : 1 ≤ n) (t : Bool) (xs : List Let) (hx : okM M xs) : Ct n 31 [mA t xs] [] = some (if t then mA true [] else mO xs, []) := by
  refine Ct_of (an := an31) (N := 0) rfl hn fun n hn => ?_
  unfold mA mO
  rw [p31]
  have hl : xs.length ≤ 80 := hx.1
  have : decide ((0 + (xs.map cL).length) * 72 ≤ 140737488355328) = true := le_dec (by rw [List.length_map]; omega)
  cases t with
  | true => rfl
  | false => simp only [cond_false, this, cond_true, List.nil_append, Bool.false_eq_true, if_false]

/- rings.copyOf -/
theorem copyOf_loop {n : Nat} (hM : M ≤ 17592186044416) (hn : 2 ≤ n) (xs : List Let) (hx : okM M xs) (f g : Int) (t : Bool) (r : List (List D)) (a b : Int) : ∀ (m j : Nat), j ≤ xs.length → xs.length - j < m →
    h27_0 (Ct n) n [] m (s27_0_2 (xs.map cL) f g t r a b (xs.length : Int) (j : Int)) = some (rO xs f g, [])
  | 0, j, _, h => by omega
  | m + 1, j, hj, hm => by
    rw [ph27_0_2]
    by_cases hlt : j < xs.length
    · have hl : xs.length ≤ 80 := hx.1
      have ih := copyOf_loop hM hn xs hx f g t r a b m (j + 1) (by omega) (by omega)
      have hc := ownL hM hn xs[j] (mem_get hx.2 hlt)
      have hr : ∀ K, tRes (R := V × List (List C)) (.val (.agg [.str, .int .i64, .int .i64, .str, .im 1]) []) (some (lA xs[j], [])) K = _ := fun K => res_l _ K
      unfold lA at hc hr
      have hg : (xs.map cL)[j]? = some (cL xs[j]) := by simp [hlt]
      have hrow : [D.str xs[j].b, D.int .i64 xs[j].v.k, D.int .i64 xs[j].v.n, D.str xs[j].v.s, D.sl (.im xs[j].v.t) 1 (xs[j].v.l.map encI)] = cL xs[j] := rfl
      have h5 := fun z0 z1 z2 z3 z4 => rset5 z0 z1 z2 z3 z4 hg
      simp only [Nat.zero_add] at h5
      simp only [lt_len hlt, cond_true, asI_nat, qOpt_some, List.length_map, decide_eq_true hlt, Nat.zero_add, hg, drop0, take_L, len_L, Nat.reduceLeDiff, decide_true, tRow_eq _ (dec_L _), hc, hr, Bool.and_self, h5, hrow, set_self hlt, next_i (j := j) (by omega), ih]
    · have : j = xs.length := by omega
      subst this
      simp only [nlt_len (Nat.lt_irrefl _), cond_false, beq_self_eq_true, Bool.and_self, Bool.or_true, cond_true]
      rfl
theorem copyOf12 (Cl : Oracle) (n : Nat) (a0 : List (List D)) (a1 a2 : Int) (a3 : Bool) (a4 : List (List D)) (a5 a6 a7 a8 : Int) : ∀ (m : Nat), 1 ≤ m → h27_0 Cl n [] m (s27_0_1 a0 a1 a2 a3 a4 a5 a6 a7 a8) = h27_0 Cl n [] m (s27_0_2 a0 a1 a2 a3 a4 a5 a6 a7 a8)
  | m + 1, _ => (ph27_0_1 Cl n m a0 a1 a2 a3 a4 a5 a6 a7 a8).trans (ph27_0_2 Cl n m a0 a1 a2 a3 a4 a5 a6 a7 a8).symm
theorem copyOf_nil (Cl : Oracle) (n : Nat) (f g : Int) (r : List (List D)) : ∀ (m : Nat), 1 ≤ m → h27_0 Cl n [] m (s27_0_0 true [] f g true r 0 0 0 0) = some (rA true [] f g, [])
  | m + 1, _ => by
    rw [ph27_0_0]
    have : decide ((0 : Int) < 0) = false := rfl
    simp only [this, cond_false]
    rfl
theorem copyOf {n : Nat} (hM : M ≤ 17592186044416) (hn : M + 103 ≤ n) (t : Bool) (xs : List Let) (hx : okM M xs) (f g : Int) : Ct n 27 [rA t xs f g] [] = some (if t then rA true [] f g else rO xs f g, []) := by
  refine Ct_of (an := an27) (N := M + 102) rfl hn fun n hn => ?_
  have hl : xs.length ≤ 80 := hx.1
  have h31 := clone5 (n := n) (by omega) t xs hx
  have h1 := copyOf_nil (Ct n) n f g [] n (by omega)
  have h2 := copyOf_loop (n := n) hM (by omega) xs hx f g true [] 0 0 n 0 (by omega) (by omega)
  have h3 := copyOf12 (Ct n) n (xs.map cL) f g true [] 0 0 (xs.length : Int) 0 n (by omega)
  have h2 : h27_0 (Ct n) n [] n (s27_0_2 (xs.map cL) f g true [] 0 0 (xs.length : Int) 0) = _ := h2
  unfold rA
  rw [p27]
  unfold mA mO at h31
  rw [h31]
  cases t with
  | true =>
    have hr : ∀ K, tRes (R := V × List (List C)) (.val (.one (.sl 5)) []) (some (mA true [], [])) K = _ := fun K => res_ms _ _ K
    unfold mA at hr
    simp only [if_true, hr, tagI, List.map_nil, natI_eq, List.length_nil]
    exact h1
  | false =>
    have hr : ∀ K, tRes (R := V × List (List C)) (.val (.one (.sl 5)) []) (some (mO xs, [])) K = _ := fun K => res_mo _ K
    unfold mO at hr
    simp only [Bool.false_eq_true, if_false, hr, tagI, natI_eq, List.length_map]
    rw [h3, h2]

/- reparteeref36.CopyRing -/
theorem copyRing {n : Nat} (hM : M ≤ 17592186044416) (hn : M + 103 ≤ n) (t : Bool) (xs : List Let) (hx : okM M xs) (f g : Int) : Ct n 10 [rA t xs f g] [] = some (if xs = [] then rA true [] f g else rO (xs.map cpL) f g, []) := by
  refine Ct_of (an := an10) (N := M + 102) rfl hn fun n hn => ?_
  have h21 := copyMail (n := n) hM hn t xs hx
  unfold rA
  rw [p10]
  unfold mA mO at h21
  rw [h21]
  by_cases he : xs = []
  · have hr : ∀ K, tRes (R := V × List (List C)) (.val (.one (.sl 5)) []) (some (mA true [], [])) K = _ := fun K => res_ms _ _ K
    unfold mA at hr
    simp only [he, if_true, hr, tagI]
  · have hr : ∀ K, tRes (R := V × List (List C)) (.val (.one (.sl 5)) []) (some (mO (xs.map cpL), [])) K = _ := fun K => res_mo _ K
    unfold mO at hr
    simp only [he, if_false, hr, tagI, beq_self_eq_true, Bool.and_self, Bool.or_true, cond_true]
    rfl

/- reparteeref20.SameMail -/
def sameM : List Let → List Let → Bool
  | [], [] => true
  | x :: xs, y :: ys => eqL x y && sameM xs ys
  | _, _ => false
theorem sameM_len : ∀ {xs ys : List Let}, sameM xs ys = true → xs.length = ys.length
  | [], [], _ => rfl
  | x :: xs, y :: ys, h => by
    simp only [sameM, Bool.and_eq_true] at h
    simp [sameM_len h.2]
  | [], _ :: _, h => by cases h
  | _ :: _, [], h => by cases h
theorem sameMail_loop {n : Nat} (hM : M ≤ 17592186044416) (hn : M + 102 ≤ n) (t t' : Bool) (xs ys : List Let) (hl : xs.length = ys.length) (hx : okM M xs) : ∀ (m j : Nat), j ≤ xs.length → xs.length - j < m →
    h13_0 (Ct n) n [] m (s13_0_0 t (xs.map cL) t' (ys.map cL) (j : Int)) = some (bR (sameM (xs.drop j) (ys.drop j)))
  | 0, j, _, h => by omega
  | m + 1, j, hj, hm => by
    rw [ph13_0_0]
    have hl80 : xs.length ≤ 80 := hx.1
    by_cases hlt : j < xs.length
    · have hly : j < ys.length := by omega
      have ih := sameMail_loop hM hn t t' xs ys hl hx m (j + 1) (by omega) (by omega)
      have hc := sameValue hM hn xs[j].v ys[j].v (mem_get hx.2 hlt).2
      unfold vA at hc
      rw [drop_cons hlt, drop_cons hly]
      simp only [sameM]
      have hg : (xs.map cL)[j]? = some (cL xs[j]) := by simp [hlt]
      have hg' : (ys.map cL)[j]? = some (cL ys[j]) := by simp [hly]
      simp only [natI_eq, List.length_map, lt_len hlt, cond_true, asI_nat, qOpt_some, hg, hg', drop0, take_V, len_L, len_dL, Nat.reduceLeDiff, decide_true, tRow_eq _ (dec_b _), tRow_eq _ (dec_V _), hc, res_b, next_i (j := j) (by omega), ih]
      unfold eqL
      cases xs[j].b == ys[j].b <;> cases eqV xs[j].v ys[j].v <;> rfl
    · have hj' : j = xs.length := by omega
      subst hj'
      simp only [natI_eq, List.length_map, nlt_len (Nat.lt_irrefl _), cond_false]
      rw [List.drop_length, hl, List.drop_length]
      rfl
theorem sameMail {n : Nat} (hM : M ≤ 17592186044416) (hn : M + 103 ≤ n) (t t' : Bool) (xs ys : List Let) (hx : okM M xs) : Ct n 13 [mA t xs, mA t' ys] [] = some (bR (sameM xs ys)) := by
  refine Ct_of (an := an13) (N := M + 102) rfl hn fun n hn => ?_
  have hl80 : xs.length ≤ 80 := hx.1
  unfold mA
  rw [p13]
  by_cases hl : xs.length = ys.length
  · have := sameMail_loop hM hn t t' xs ys hl hx n 0 (by omega) (by omega)
    simp only [List.drop_zero] at this
    have this : h13_0 (Ct n) n [] n (s13_0_0 t (xs.map cL) t' (ys.map cL) 0) = _ := this
    simp only [natI_eq, List.length_map, eq_len hl, cond_false, this]
  · have : sameM xs ys = false := by
      cases h : sameM xs ys with
      | false => rfl
      | true => exact absurd (sameM_len h) hl
    simp only [natI_eq, List.length_map, ne_len hl, cond_true, this]
    rfl

/- reparteeref36.SameRing -/
theorem sameRing {n : Nat} (hM : M ≤ 17592186044416) (hn : M + 104 ≤ n) (t t' : Bool) (xs ys : List Let) (hx : okM M xs) (f g f' g' : Int) : Ct n 8 [rA t xs f g, rA t' ys f' g'] [] = some (bR (f == f' && (g == g' && sameM xs ys))) := by
  refine Ct_of (an := an8) (N := M + 103) rfl hn fun n hn => ?_
  have h13 := sameMail hM hn t t' xs ys hx
  unfold mA at h13
  unfold rA
  rw [p8]
  simp only [h13, res_b]
  cases f == f' <;> cases g == g' <;> rfl
end Go.Proofs.Ytjndnconlakjkaa

set_option maxRecDepth 100000
set_option linter.unusedVariables false
set_option linter.unusedSimpArgs false
namespace Go.Proofs.Ytjndnconlakjkaa
open Go Go.Abs
variable {M : Nat}

theorem tmod_nat (a b : Nat) : Int.tmod (a : Int) (b : Int) = ((a % b : Nat) : Int) := rfl
theorem wrap_nat {a b : Nat} (h : a + b ≤ 9223372036854775807) : IntKind.wrap .i64 ((a : Int) + (b : Int)) = ((a + b : Nat) : Int) := by
  rw [wrap_i64 (by omega) (by omega)]; omega
theorem notz {a : Nat} (h : 0 < a) : (!decide ((a : Int) = 0)) = true := by
  have : ¬ ((a : Int) = 0) := by omega
  simp only [decide_eq_false this, Bool.not_false]
/- rings.at -/
theorem atR {n : Nat} (hn : 1 ≤ n) (t : Bool) (xs : List Let) (f k : Nat) (g : Int) (hl : 0 < xs.length) (hs : f + k ≤ 9223372036854775807) : Ct n 22 [rA t xs f g, .one (.d (.int .i64 (k : Int)))] [] = some (iR (((f + k) % xs.length : Nat) : Int)) := by
  refine Ct_of (an := an22) (N := 0) rfl hn fun n hn => ?_
  unfold rA
  rw [p22]
  simp only [natI_eq, List.length_map, notz hl, cond_true, wrap_nat hs, tmod_nat]
  rfl

def zat (xs : List Let) (i : Nat) : Bool := match xs[i]? with | some x => eqL x zL | none => false
def zrun (xs : List Let) (f : Nat) : Nat → Nat → Bool
  | 0, _ => true
  | c + 1, k => zat xs ((f + k) % xs.length) && zrun xs f c (k + 1)
def mayC (xs : List Let) (f g : Int) : Prop := xs.length ≤ 64 ∧ 0 ≤ g ∧ g ≤ xs.length ∧ 0 ≤ f ∧ (f < xs.length ∨ f = 0)
instance (xs : List Let) (f g : Int) : Decidable (mayC xs f g) := by unfold mayC; infer_instance
def mayB (xs : List Let) (f g : Int) : Bool := decide (mayC xs f g) && zrun xs f.toNat (xs.length - g.toNat) g.toNat

/- rings.May -/
theorem may_loop {n : Nat} (hM : M ≤ 17592186044416) (hn : M + 102 ≤ n) (t : Bool) (xs : List Let) (hx : okM M xs) (f : Nat) (g : Int) (hf : f < xs.length ∨ f = 0) : ∀ (c k m : Nat), k + c = xs.length → c < m →
    h11_0 (Ct n) n [] m (s11_0_0 t (xs.map cL) (f : Int) g (xs.length : Int) (k : Int)) = some (bR (zrun xs f c k))
  | c, k, 0, _, h => by omega
  | 0, k, m + 1, hk, hm => by
    rw [ph11_0_0]
    simp only [nlt_len (show ¬ k < xs.length by omega), cond_false]
    rfl
  | c + 1, k, m + 1, hk, hm => by
    have hl80 : xs.length ≤ 80 := hx.1
    rw [ph11_0_0]
    have ih := may_loop hM hn t xs hx f g hf c (k + 1) m (by omega) (by omega)
    have hat := atR (n := n) (by omega) t xs f k g (by omega) (by omega)
    have hlt : (f + k) % xs.length < xs.length := Nat.mod_lt _ (by omega)
    have hg : (xs.map cL)[(f + k) % xs.length]? = some (cL xs[(f + k) % xs.length]) := by simp [hlt]
    have hc := dataSame (n := n) hM (by omega) xs[(f + k) % xs.length].v zV (mem_get hx.2 hlt).2
    unfold vA at hc
    simp only [zV, List.map_nil] at hc
    unfold rA at hat
    simp only [lt_len (show k < xs.length by omega), cond_true, hat, res_i, asI_nat, qOpt_some, hg, len_L, take_L, Nat.reduceLeDiff, decide_true, tRow_eq _ (dec_L _), hc, res_b, next_i (j := k) (by omega), ih]
    simp only [zrun, zat, List.getElem?_eq_getElem hlt]
    show (bif !(xs[(f + k) % xs.length].b == []) then _ else _) = some (bR ((xs[(f + k) % xs.length].b == [] && eqV xs[(f + k) % xs.length].v zV) && _))
    simp only [zV]
    cases xs[(f + k) % xs.length].b == [] <;> cases eqV xs[(f + k) % xs.length].v ⟨0, 0, [], true, []⟩ <;> rfl
theorem mayF {xs : List Let} {f g : Int} (h : ¬ mayC xs f g) : mayB xs f g = false := by
  unfold mayB; rw [decide_eq_false h]; rfl
theorem dtrue {p : Prop} [Decidable p] (h : p) : decide p = true := decide_eq_true h
theorem dfalse {p : Prop} [Decidable p] (h : ¬ p) : decide p = false := decide_eq_false h
theorem mayR {n : Nat} (hM : M ≤ 17592186044416) (hn : M + 103 ≤ n) (t : Bool) (xs : List Let) (hx : okM M xs) (f g : Int) : Ct n 11 [rA t xs f g] [] = some (bR (mayB xs f g)) := by
  refine Ct_of (an := an11) (N := M + 102) rfl hn fun n hn => ?_
  have hl80 : xs.length ≤ 80 := hx.1
  unfold rA
  rw [p11]
  simp only [natI_eq, List.length_map]
  by_cases h1 : xs.length ≤ 64
  · by_cases h2 : 0 ≤ g
    · by_cases h3 : g ≤ xs.length
      · by_cases h4 : 0 ≤ f
        · by_cases h5 : f < xs.length ∨ f = 0
          · obtain ⟨f, rfl⟩ := Int.eq_ofNat_of_zero_le h4
            obtain ⟨g, rfl⟩ := Int.eq_ofNat_of_zero_le h2
            have hm := may_loop hM hn t xs hx f g (by omega) (xs.length - g) g n (by omega) (by omega)
            have h5' : ¬ ((f : Int) ≥ if (1 : Int) > (xs.length : Int) then 1 else (xs.length : Int)) := by split <;> omega
            simp only [dfalse (show ¬ ((xs.length : Int) > 64) by omega), dfalse (show ¬ ((g : Int) < 0) by omega), dfalse (show ¬ ((g : Int) > xs.length) by omega), dfalse (show ¬ ((f : Int) < 0) by omega), dfalse h5', cond_false, hm]
            unfold mayB
            rw [dtrue (show mayC xs f g from ⟨h1, h2, h3, h4, h5⟩)]
            rfl
          · have h5' : ((f : Int) ≥ if (1 : Int) > (xs.length : Int) then 1 else (xs.length : Int)) := by split <;> omega
            rw [mayF (fun h => h5 h.2.2.2.2)]
            simp only [dfalse (show ¬ ((xs.length : Int) > 64) by omega), dfalse (show ¬ ((g : Int) < 0) by omega), dfalse (show ¬ ((g : Int) > xs.length) by omega), dfalse (show ¬ ((f : Int) < 0) by omega), dtrue h5', cond_false, cond_true]
            rfl
        · rw [mayF (fun h => h4 h.2.2.2.1)]
          simp only [dfalse (show ¬ ((xs.length : Int) > 64) by omega), dfalse (show ¬ ((g : Int) < 0) by omega), dfalse (show ¬ ((g : Int) > xs.length) by omega), dtrue (show ((f : Int) < 0) by omega), cond_false, cond_true]
          rfl
      · rw [mayF (fun h => h3 h.2.2.1)]
        simp only [dfalse (show ¬ ((xs.length : Int) > 64) by omega), dfalse (show ¬ ((g : Int) < 0) by omega), dtrue (show ((g : Int) > xs.length) by omega), cond_false, cond_true]
        rfl
    · rw [mayF (fun h => h2 h.2.1)]
      simp only [dfalse (show ¬ ((xs.length : Int) > 64) by omega), dtrue (show ((g : Int) < 0) by omega), cond_false, cond_true]
      rfl
  · rw [mayF (fun h => h1 h.1)]
    simp only [dtrue (show ((xs.length : Int) > 64) by omega), cond_true]
    rfl

/- reparteeref36.RingMay -/
theorem ringMay_loop {n : Nat} (hM : M ≤ 17592186044416) (hn : M + 103 ≤ n) (t : Bool) (xs : List Let) (hx : okM M xs) (f : Nat) (g : Int) (hf : f < xs.length ∨ f = 0) : ∀ (c k m : Nat), k + c = xs.length → c < m →
    h12_0 (Ct n) n [] m (s12_0_0 t (xs.map cL) (f : Int) g (xs.length : Int) (k : Int)) = some (bR (zrun xs f c k))
  | c, k, 0, _, h => by omega
  | 0, k, m + 1, hk, hm => by
    rw [ph12_0_0]
    simp only [nlt_len (show ¬ k < xs.length by omega), cond_false]
    rfl
  | c + 1, k, m + 1, hk, hm => by
    have hl80 : xs.length ≤ 80 := hx.1
    rw [ph12_0_0]
    have ih := ringMay_loop hM hn t xs hx f g hf c (k + 1) m (by omega) (by omega)
    have hlt : (f + k) % xs.length < xs.length := Nat.mod_lt _ (by omega)
    have hg : (xs.map cL)[(f + k) % xs.length]? = some (cL xs[(f + k) % xs.length]) := by simp [hlt]
    have hc := noneL (n := n) hM (by omega) xs[(f + k) % xs.length] (mem_get hx.2 hlt).2
    unfold lA at hc
    simp only [lt_len (show k < xs.length by omega), cond_true, notz (show 0 < xs.length by omega), wrap_nat (show f + k ≤ 9223372036854775807 by omega), tmod_nat, asI_nat, qOpt_some, hg, len_L, take_L, Nat.reduceLeDiff, decide_true, tRow_eq _ (dec_L _), hc, res_b, next_i (j := k) (by omega), ih]
    simp only [zrun, zat, List.getElem?_eq_getElem hlt]
    cases eqL xs[(f + k) % xs.length] zL <;> rfl
theorem ringMay {n : Nat} (hM : M ≤ 17592186044416) (hn : M + 104 ≤ n) (t : Bool) (xs : List Let) (hx : okM M xs) (f g : Int) : Ct n 12 [rA t xs f g] [] = some (bR (mayB xs f g)) := by
  refine Ct_of (an := an12) (N := M + 103) rfl hn fun n hn => ?_
  have hl80 : xs.length ≤ 80 := hx.1
  unfold rA
  rw [p12]
  simp only [natI_eq, List.length_map]
  by_cases h1 : xs.length ≤ 64
  · by_cases h2 : 0 ≤ g
    · by_cases h3 : g ≤ xs.length
      · by_cases h4 : 0 ≤ f
        · by_cases h5 : f < xs.length ∨ f = 0
          · obtain ⟨f, rfl⟩ := Int.eq_ofNat_of_zero_le h4
            obtain ⟨g, rfl⟩ := Int.eq_ofNat_of_zero_le h2
            have hm := ringMay_loop hM hn t xs hx f g (by omega) (xs.length - g) g n (by omega) (by omega)
            have hB : mayB xs f g = zrun xs f (xs.length - g) g := by
              unfold mayB
              rw [dtrue (show mayC xs f g from ⟨h1, h2, h3, h4, h5⟩)]
              rfl
            rw [hB]
            simp only [dfalse (show ¬ ((xs.length : Int) > 64) by omega), dfalse (show ¬ ((g : Int) < 0) by omega), dfalse (show ¬ ((g : Int) > xs.length) by omega), dfalse (show ¬ ((f : Int) < 0) by omega), cond_false, hm]
            by_cases h6 : (f : Int) > 0
            · simp only [dtrue h6, dfalse (show ¬ ((f : Int) ≥ xs.length) by omega), cond_true, cond_false]
            · simp only [dfalse h6, cond_false]
          · rw [mayF (fun h => h5 h.2.2.2.2)]
            simp only [dfalse (show ¬ ((xs.length : Int) > 64) by omega), dfalse (show ¬ ((g : Int) < 0) by omega), dfalse (show ¬ ((g : Int) > xs.length) by omega), dfalse (show ¬ ((f : Int) < 0) by omega), dtrue (show ((f : Int) > 0) by omega), dtrue (show ((f : Int) ≥ xs.length) by omega), cond_false, cond_true]
            rfl
        · rw [mayF (fun h => h4 h.2.2.2.1)]
          simp only [dfalse (show ¬ ((xs.length : Int) > 64) by omega), dfalse (show ¬ ((g : Int) < 0) by omega), dfalse (show ¬ ((g : Int) > xs.length) by omega), dtrue (show ((f : Int) < 0) by omega), cond_false, cond_true]
          rfl
      · rw [mayF (fun h => h3 h.2.2.1)]
        simp only [dfalse (show ¬ ((xs.length : Int) > 64) by omega), dfalse (show ¬ ((g : Int) < 0) by omega), dtrue (show ((g : Int) > xs.length) by omega), cond_false, cond_true]
        rfl
    · rw [mayF (fun h => h2 h.2.1)]
      simp only [dfalse (show ¬ ((xs.length : Int) > 64) by omega), dtrue (show ((g : Int) < 0) by omega), cond_false, cond_true]
      rfl
  · rw [mayF (fun h => h1 h.1)]
    simp only [dtrue (show ((xs.length : Int) > 64) by omega), cond_true]
    rfl

/- Rings without letters -/
def newR (n : Nat) : List Let := List.replicate n zL
def cap (room : Int) : Nat := (if (if 64 < room then 64 else room) > 0 then (if 64 < room then 64 else room) else 0).toNat
theorem replicate_map (n : Nat) : List.replicate n [D.str [], D.int .i64 0, D.int .i64 0, D.str [], D.sl (.im true) 1 []] = (newR n).map cL := by
  simp [newR, cL, zL, cV, zV]
theorem newRing {n : Nat} (hn : 1 ≤ n) (room : Int) : Ct n 7 [.one (.d (.int .i64 room))] [] = some (rA false (newR (cap room)) 0 0, []) := by
  refine Ct_of (an := an7) (N := 0) rfl hn fun n hn => ?_
  rw [p7]
  have hc : ∀ x : Int, x = (if (if 64 < room then 64 else room) > 0 then (if 64 < room then 64 else room) else 0) → 0 ≤ x ∧ x ≤ 64 := by
    intro x hx; subst hx; split <;> split <;> omega
  obtain ⟨h0, h1⟩ := hc _ rfl
  have hcap : cap room ≤ 64 := by unfold cap; omega
  have ha : asI (if (if 64 < room then 64 else room) > 0 then (if 64 < room then 64 else room) else 0) = some (cap room) := by
    rw [asI_of h0]; rfl
  rw [ha]
  simp only [qOpt_some, replicate_map, whole_eq, plain_lets, Nat.zero_add, Nat.le_refl, decide_true, dtrue (show cap room * 72 ≤ 140737488355328 by omega), dtrue (show cap room ≤ 9223372036854775807 by omega), Bool.and_self, cond_true]
  rfl
theorem newRing' {n : Nat} (hn : 1 ≤ n) (room : Int) : Ct n 9 [.one (.d (.int .i64 room))] [] = some (rA false (newR (cap room)) 0 0, []) := by
  refine Ct_of (an := an9) (N := 0) rfl hn fun n hn => ?_
  rw [p9]
  have he : (if 64 < (if 0 > room then 0 else room) then 64 else (if 0 > room then 0 else room)) = (if (if 64 < room then 64 else room) > 0 then (if 64 < room then 64 else room) else (0 : Int)) := by
    split <;> split <;> (repeat' split) <;> omega
  have hc : ∀ x : Int, x = (if (if 64 < room then 64 else room) > 0 then (if 64 < room then 64 else room) else 0) → 0 ≤ x ∧ x ≤ 64 := by
    intro x hx; subst hx; split <;> split <;> omega
  obtain ⟨h0, h1⟩ := hc _ rfl
  have hcap : cap room ≤ 64 := by unfold cap; omega
  have ha : asI (if 64 < (if 0 > room then 0 else room) then 64 else (if 0 > room then 0 else room)) = some (cap room) := by
    rw [he, asI_of h0]; rfl
  rw [ha]
  simp only [qOpt_some, replicate_map, whole_eq, plain_lets, Nat.zero_add, Nat.le_refl, decide_true, dtrue (show cap room * 72 ≤ 140737488355328 by omega), dtrue (show cap room ≤ 9223372036854775807 by omega), Bool.and_self, cond_true]
  rfl
end Go.Proofs.Ytjndnconlakjkaa

set_option maxRecDepth 100000
set_option linter.unusedVariables false
set_option linter.unusedSimpArgs false
namespace Go.Proofs.Ytjndnconlakjkaa
open Go Go.Abs
variable {M : Nat}

theorem mayT {xs : List Let} {f g : Int} (h : mayB xs f g = true) : mayC xs f g := by
  unfold mayB at h
  rw [Bool.and_eq_true] at h
  exact of_decide_eq_true h.1
theorem set_map {xs : List Let} {i : Nat} (y : Let) : (xs.map cL).set i (cL y) = (xs.set i y).map cL := by rw [List.map_set]
def takeR (t : Bool) (xs : List Let) (f g : Int) : V :=
  if mayB xs f g = true ∧ g ≠ 0 then .tup [rA t (xs.set f.toNat zL) (((f.toNat + 1) % xs.length : Nat) : Int) (g - 1), lA (xs.getD f.toNat zL), .one (.d (.bool true))]
  else .tup [rA t xs f g, lA zL, .one (.d (.bool false))]
def putR (t : Bool) (xs : List Let) (f g : Int) (l : Let) : V :=
  if mayB xs f g = true ∧ g ≠ xs.length then .tup [rA t (xs.set ((f.toNat + g.toNat) % xs.length) l) f (g + 1), .one (.d (.bool true))]
  else .tup [rA t xs f g, .one (.d (.bool false))]

/- rings.Take -/
theorem takeN {n : Nat} (hM : M ≤ 17592186044416) (hn : M + 104 ≤ n) (t : Bool) (xs : List Let) (ht : t = true → xs = []) (hx : okM M xs) (f g : Int) : Ct n 16 [rA t xs f g] [] = some (takeR t xs f g, []) := by
  refine Ct_of (an := an16) (N := M + 103) rfl hn fun n hn => ?_
  have hl80 : xs.length ≤ 80 := hx.1
  have h27 := copyOf (n := n) hM hn t xs hx f g
  have h11 := mayR (n := n) hM hn t xs hx f g
  unfold rA at h27 h11 ⊢
  rw [p16, h27]
  cases t with
  | true =>
    have := ht rfl
    subst this
    have hr : ∀ K, tRes (R := V × List (List C)) (.val (.agg [.sl 5, .int .i64, .int .i64]) []) (some (rA true [] f g, [])) K = _ := fun K => res_rs _ _ _ _ K
    unfold rA at hr
    rw [if_pos rfl, hr]
    simp only [List.map_nil] at h11 ⊢
    simp only [tagI, h11, res_b]
    unfold takeR
    cases hm : mayB [] f g with
    | false => simp only [Bool.not_false, cond_true, Bool.false_eq_true, false_and, if_false]; rfl
    | true =>
      have hc := mayT hm
      have h0 : g = 0 := by
        have h1 := hc.2.2.1
        have h2 := hc.2.1
        simp only [List.length_nil] at h1
        omega
      subst h0
      have hz : ((0 : Int) == 0) = true := rfl
      simp only [Bool.not_true, cond_false, hz, cond_true, ne_eq, not_true, and_false, if_false]
      rfl
  | false =>
    have hr : ∀ K, tRes (R := V × List (List C)) (.val (.agg [.sl 5, .int .i64, .int .i64]) []) (some (rO xs f g, [])) K = _ := fun K => res_ro _ _ _ K
    unfold rO at hr
    have hif : (if false = true then V.agg [.d (.sl (.im true) 5 (List.map cL [])), .d (.int .i64 f), .d (.int .i64 g)] else rO xs f g) = rO xs f g := rfl
    rw [hif]
    unfold rO
    rw [hr]
    unfold takeR
    cases hm : mayB xs f g with
    | false =>
      rw [hm] at h11
      simp only [tagI, h11, res_b, Bool.not_false, cond_true, Bool.false_eq_true, false_and, if_false, beq_self_eq_true, Bool.and_self, Bool.or_true, Nat.zero_add, Nat.le_refl, decide_true, whole_eq, plain_lets]
      rfl
    | true =>
      rw [hm] at h11
      have hc := mayT hm
      by_cases h0 : g = 0
      · subst h0
        have hz : ((0 : Int) == 0) = true := rfl
        simp only [tagI, h11, res_b, Bool.not_true, cond_false, hz, cond_true, ne_eq, not_true, and_false, if_false, beq_self_eq_true, Bool.and_self, Bool.or_true, Nat.zero_add, Nat.le_refl, decide_true, whole_eq, plain_lets]
        rfl
      · obtain ⟨c1, c2, c3, c4, c5⟩ := hc
        obtain ⟨f, rfl⟩ := Int.eq_ofNat_of_zero_le c4
        have hf : f < xs.length := by omega
        have hat := atR (n := n) (by omega) false xs f 1 g (by omega) (by omega)
        unfold rA at hat
        have hz : (g == 0) = false := by simp [h0]
        have hg : (xs.map cL)[f]? = some (cL xs[f]) := by simp [hf]
        have h5 := fun z0 z1 z2 z3 z4 => rset5 z0 z1 z2 z3 z4 hg
        simp only [Nat.zero_add] at h5
        have hrow : [D.str [], D.int .i64 0, D.int .i64 0, D.str [], D.sl (.im true) 1 []] = cL zL := rfl
        have hat : Ct n 22 [.agg [.d (.sl (.im false) 5 (xs.map cL)), .d (.int .i64 (f : Int)), .d (.int .i64 g)], .one (.d (.int .i64 1))] [] = some (iR (((f + 1) % xs.length : Nat) : Int)) := hat
        have hw : IntKind.wrap .i64 (g - 1) = g - 1 := wrap_i64 (by omega) (by omega)
        have hgd : xs.getD f zL = xs[f] := by simp [hf]
        simp only [tagI, h11, res_b, Bool.not_true, cond_false, hz, asI_nat, qOpt_some, List.length_map, decide_eq_true hf, cond_true, Nat.zero_add, hg, drop0, take_L, len_L, Nat.reduceLeDiff, decide_true, Bool.and_self, tRow_eq _ (dec_L _), hat, res_i, h5, hrow, set_map, beq_self_eq_true, Bool.or_true, Nat.le_refl, whole_eq, plain_lets, hw, ne_eq, h0, not_false_eq_true, and_self, if_true, Int.toNat_natCast, hgd]
        rfl
end Go.Proofs.Ytjndnconlakjkaa

set_option maxRecDepth 100000
set_option linter.unusedVariables false
set_option linter.unusedSimpArgs false
namespace Go.Proofs.Ytjndnconlakjkaa
open Go Go.Abs
variable {M : Nat}

def takeRR (xs : List Let) (f g : Int) : V :=
  if mayB xs f g = true ∧ g ≠ 0 then .tup [rA false ((xs.map cpL).set f.toNat zL) (((f.toNat + 1) % xs.length : Nat) : Int) (g - 1), lA ((xs.map cpL).getD f.toNat zL), .one (.d (.bool true))]
  else .tup [rA xs.isEmpty (xs.map cpL) f g, lA zL, .one (.d (.bool false))]
def putRR (xs : List Let) (f g : Int) (l : Let) : V :=
  if mayB xs f g = true ∧ g ≠ xs.length then .tup [rA false ((xs.map cpL).set ((f.toNat + g.toNat) % xs.length) (cpL l)) f (g + 1), .one (.d (.bool true))]
  else .tup [rA xs.isEmpty (xs.map cpL) f g, .one (.d (.bool false))]

theorem takeRing {n : Nat} (hM : M ≤ 17592186044416) (hn : M + 105 ≤ n) (t : Bool) (xs : List Let) (hx : okM M xs) (f g : Int) : Ct n 17 [rA t xs f g] [] = some (takeRR xs f g, []) := by
  refine Ct_of (an := an17) (N := M + 104) rfl hn fun n hn => ?_
  have hl80 : xs.length ≤ 80 := hx.1
  have h10 := copyRing (n := n) hM (by omega) t xs hx f g
  have h12 := ringMay (n := n) hM hn t xs hx f g
  unfold rA at h10 h12 ⊢
  rw [p17, h10]
  by_cases he : xs = []
  · subst he
    have hr : ∀ K, tRes (R := V × List (List C)) (.val (.agg [.sl 5, .int .i64, .int .i64]) []) (some (rA true [] f g, [])) K = _ := fun K => res_rs _ _ _ _ K
    unfold rA at hr
    rw [if_pos rfl, hr]
    simp only [List.map_nil] at h12 ⊢
    simp only [tagI, h12, res_b]
    unfold takeRR
    cases hm : mayB [] f g with
    | false => simp only [Bool.not_false, cond_true, Bool.false_eq_true, false_and, if_false]; rfl
    | true =>
      have hc := mayT hm
      have h0 : g = 0 := by
        have h1 := hc.2.2.1
        have h2 := hc.2.1
        simp only [List.length_nil] at h1
        omega
      subst h0
      have hz : decide ((0 : Int) < 1) = true := rfl
      simp only [Bool.not_true, cond_false, hz, cond_true, ne_eq, not_true, and_false, if_false]
      rfl
  · have hr : ∀ K, tRes (R := V × List (List C)) (.val (.agg [.sl 5, .int .i64, .int .i64]) []) (some (rO (xs.map cpL) f g, [])) K = _ := fun K => res_ro _ _ _ K
    unfold rO at hr
    rw [if_neg he]
    unfold rO
    rw [hr]
    unfold takeRR
    have hie : xs.isEmpty = false := by cases xs with | nil => exact absurd rfl he | cons => rfl
    cases hm : mayB xs f g with
    | false =>
      rw [hm] at h12
      simp only [tagI, h12, res_b, Bool.not_false, cond_true, Bool.false_eq_true, false_and, if_false, beq_self_eq_true, Bool.and_self, Bool.or_true, Nat.zero_add, Nat.le_refl, decide_true, whole_eq, plain_lets, hie]
      rfl
    | true =>
      rw [hm] at h12
      have hc := mayT hm
      by_cases h0 : g = 0
      · subst h0
        have hz : decide ((0 : Int) < 1) = true := rfl
        simp only [tagI, h12, res_b, Bool.not_true, cond_false, hz, cond_true, ne_eq, not_true, and_false, if_false, beq_self_eq_true, Bool.and_self, Bool.or_true, Nat.zero_add, Nat.le_refl, decide_true, whole_eq, plain_lets, hie]
        rfl
      · obtain ⟨c1, c2, c3, c4, c5⟩ := hc
        obtain ⟨f, rfl⟩ := Int.eq_ofNat_of_zero_le c4
        have hf : f < xs.length := by omega
        have hf' : f < (xs.map cpL).length := by simpa using hf
        have hz : decide (g < 1) = false := dfalse (by omega)
        have hg : ((xs.map cpL).map cL)[f]? = some (cL (xs.map cpL)[f]) := by rw [List.getElem?_map, List.getElem?_eq_getElem hf']; rfl
        have h5 := fun z0 z1 z2 z3 z4 => rset5 z0 z1 z2 z3 z4 hg
        simp only [Nat.zero_add] at h5
        have hrow : [D.str [], D.int .i64 0, D.int .i64 0, D.str [], D.sl (.im true) 1 []] = cL zL := rfl
        have hw : IntKind.wrap .i64 (g - 1) = g - 1 := wrap_i64 (by omega) (by omega)
        have hw2 : IntKind.wrap .i64 ((f : Int) + 1) = ((f + 1 : Nat) : Int) := next_i (by omega)
        have hgd : (xs.map cpL).getD f zL = (xs.map cpL)[f] := by rw [List.getD_eq_getElem?_getD, List.getElem?_eq_getElem hf']; rfl
        have hlt : decide (f < ((xs.map cpL).map cL).length) = true := decide_eq_true (by simpa using hf)
        have hnz : (!decide (natI (xs.map cL).length = 0)) = true := by rw [natI_eq, List.length_map]; exact notz (by omega)
        have htm : (((f + 1 : Nat) : Int)).tmod (natI (xs.map cL).length) = (((f + 1) % xs.length : Nat) : Int) := by rw [natI_eq, List.length_map]; rfl
        simp only [tagI, h12, res_b, Bool.not_true, cond_false, hz, asI_nat, qOpt_some, hlt, cond_true, Nat.zero_add, hg, drop0, take_L, len_L, Nat.reduceLeDiff, decide_true, Bool.and_self, tRow_eq _ (dec_L _), hnz, h5, hrow, set_map, beq_self_eq_true, Bool.or_true, Nat.le_refl, whole_eq, plain_lets, hw, hw2, htm, ne_eq, h0, not_false_eq_true, and_self, if_true, Int.toNat_natCast, hgd]
        rfl

theorem putN {n : Nat} (hM : M ≤ 17592186044416) (hn : M + 104 ≤ n) (t : Bool) (xs : List Let) (ht : t = true → xs = []) (hx : okM M xs) (f g : Int) (l : Let) (hl : okV M l.v) : Ct n 18 [rA t xs f g, lA l] [] = some (putR t xs f g l, []) := by
  refine Ct_of (an := an18) (N := M + 103) rfl hn fun n hn => ?_
  have hl80 : xs.length ≤ 80 := hx.1
  have h27 := copyOf (n := n) hM hn t xs hx f g
  have h11 := mayR (n := n) hM hn t xs hx f g
  have h26 := ownL (n := n) hM (by omega) l hl
  have hrl : ∀ K, tRes (R := V × List (List C)) (.val (.agg [.str, .int .i64, .int .i64, .str, .im 1]) []) (some (lA l, [])) K = _ := fun K => res_l _ K
  unfold lA at h26 hrl ⊢
  unfold rA at h27 h11 ⊢
  rw [p18, h27]
  cases t with
  | true =>
    have := ht rfl
    subst this
    have hr : ∀ K, tRes (R := V × List (List C)) (.val (.agg [.sl 5, .int .i64, .int .i64]) []) (some (rA true [] f g, [])) K = _ := fun K => res_rs _ _ _ _ K
    unfold rA at hr
    rw [if_pos rfl, hr]
    simp only [List.map_nil] at h11 ⊢
    simp only [tagI, h11, res_b]
    unfold putR
    cases hm : mayB [] f g with
    | false => simp only [Bool.not_false, cond_true, Bool.false_eq_true, false_and, if_false]; rfl
    | true =>
      have hc := mayT hm
      have h0 : g = 0 := by
        have h1 := hc.2.2.1
        have h2 := hc.2.1
        simp only [List.length_nil] at h1
        omega
      subst h0
      have hz : ((0 : Int) == natI (([] : List (List D)).length)) = true := rfl
      simp only [Bool.not_true, cond_false, hz, cond_true, List.length_nil, Int.natCast_zero, ne_eq, not_true, and_false, if_false]
      rfl
  | false =>
    have hr : ∀ K, tRes (R := V × List (List C)) (.val (.agg [.sl 5, .int .i64, .int .i64]) []) (some (rO xs f g, [])) K = _ := fun K => res_ro _ _ _ K
    unfold rO at hr
    have hif : (if false = true then V.agg [.d (.sl (.im true) 5 (List.map cL [])), .d (.int .i64 f), .d (.int .i64 g)] else rO xs f g) = rO xs f g := rfl
    rw [hif]
    unfold rO
    rw [hr]
    unfold putR
    cases hm : mayB xs f g with
    | false =>
      rw [hm] at h11
      simp only [tagI, h11, res_b, Bool.not_false, cond_true, Bool.false_eq_true, false_and, if_false, beq_self_eq_true, Bool.and_self, Bool.or_true, Nat.zero_add, Nat.le_refl, decide_true, whole_eq, plain_lets]
      rfl
    | true =>
      rw [hm] at h11
      have hc := mayT hm
      by_cases h0 : g = xs.length
      · subst h0
        have hz : ((xs.length : Int) == natI (xs.map cL).length) = true := by rw [natI_eq, List.length_map]; exact beq_self_eq_true _
        simp only [tagI, h11, res_b, Bool.not_true, cond_false, hz, cond_true, ne_eq, not_true, and_false, if_false, beq_self_eq_true, Bool.and_self, Bool.or_true, Nat.zero_add, Nat.le_refl, decide_true, whole_eq, plain_lets]
        rfl
      · obtain ⟨c1, c2, c3, c4, c5⟩ := hc
        obtain ⟨f, rfl⟩ := Int.eq_ofNat_of_zero_le c4
        obtain ⟨g, rfl⟩ := Int.eq_ofNat_of_zero_le c2
        have hlen : 0 < xs.length := by omega
        have hf : (f + g) % xs.length < xs.length := Nat.mod_lt _ hlen
        have hat := atR (n := n) (by omega) false xs f g g hlen (by omega)
        unfold rA at hat
        have hz : ((g : Int) == natI xs.length) = false := beq_false_of_ne h0
        have hg : (xs.map cL)[(f + g) % xs.length]? = some (cL xs[(f + g) % xs.length]) := by simp [hf]
        have h5 := fun z0 z1 z2 z3 z4 => rset5 z0 z1 z2 z3 z4 hg
        simp only [Nat.zero_add] at h5
        have hrow : [D.str l.b, D.int .i64 l.v.k, D.int .i64 l.v.n, D.str l.v.s, D.sl (.im l.v.t) 1 (l.v.l.map encI)] = cL l := rfl
        have hw : IntKind.wrap .i64 ((g : Int) + 1) = (g : Int) + 1 := wrap_i64 (by omega) (by omega)
        simp only [tagI, h11, res_b, Bool.not_true, cond_false, hz, hat, res_i, h26, hrl, asI_nat, qOpt_some, List.length_map, decide_eq_true hf, cond_true, Nat.zero_add, hg, drop0, take_L, len_L, Nat.reduceLeDiff, decide_true, Bool.and_self, tRow_eq _ (dec_L _), h5, hrow, set_map, beq_self_eq_true, Bool.or_true, Nat.le_refl, whole_eq, plain_lets, hw, ne_eq, h0, not_false_eq_true, and_self, if_true, Int.toNat_natCast]
        rfl

theorem putRing {n : Nat} (hM : M ≤ 17592186044416) (hn : M + 105 ≤ n) (t : Bool) (xs : List Let) (hx : okM M xs) (f g : Int) (l : Let) (hl : okV M l.v) : Ct n 19 [rA t xs f g, lA l] [] = some (putRR xs f g l, []) := by
  refine Ct_of (an := an19) (N := M + 104) rfl hn fun n hn => ?_
  have hl80 : xs.length ≤ 80 := hx.1
  have h10 := copyRing (n := n) hM (by omega) t xs hx f g
  have h12 := ringMay (n := n) hM hn t xs hx f g
  have h21 := copyMail (n := n) hM (by omega) false [l] ⟨by simp, fun x hx => by simp at hx; subst hx; exact hl⟩
  unfold lA
  unfold rA at h10 h12 ⊢
  rw [p19, h10]
  by_cases he : xs = []
  · subst he
    have hr : ∀ K, tRes (R := V × List (List C)) (.val (.agg [.sl 5, .int .i64, .int .i64]) []) (some (rA true [] f g, [])) K = _ := fun K => res_rs _ _ _ _ K
    unfold rA at hr
    rw [if_pos rfl, hr]
    simp only [List.map_nil] at h12 ⊢
    simp only [tagI, h12, res_b]
    unfold putRR
    cases hm : mayB [] f g with
    | false => simp only [Bool.not_false, cond_true, Bool.false_eq_true, false_and, if_false]; rfl
    | true =>
      have hc := mayT hm
      have h0 : g = 0 := by
        have h1 := hc.2.2.1
        have h2 := hc.2.1
        simp only [List.length_nil] at h1
        omega
      subst h0
      have hz : decide ((0 : Int) ≥ natI (([] : List (List D)).length)) = true := rfl
      simp only [Bool.not_true, cond_false, hz, cond_true, List.length_nil, Int.natCast_zero, ne_eq, not_true, and_false, if_false]
      rfl
  · have hr : ∀ K, tRes (R := V × List (List C)) (.val (.agg [.sl 5, .int .i64, .int .i64]) []) (some (rO (xs.map cpL) f g, [])) K = _ := fun K => res_ro _ _ _ K
    unfold rO at hr
    rw [if_neg he]
    unfold rO
    rw [hr]
    unfold putRR
    have hie : xs.isEmpty = false := by cases xs with | nil => exact absurd rfl he | cons => rfl
    cases hm : mayB xs f g with
    | false =>
      rw [hm] at h12
      simp only [tagI, h12, res_b, Bool.not_false, cond_true, Bool.false_eq_true, false_and, if_false, beq_self_eq_true, Bool.and_self, Bool.or_true, Nat.zero_add, Nat.le_refl, decide_true, whole_eq, plain_lets, hie]
      rfl
    | true =>
      rw [hm] at h12
      have hc := mayT hm
      by_cases h0 : g = xs.length
      · subst h0
        have hz : decide ((xs.length : Int) ≥ natI (xs.map cL).length) = true := by rw [natI_eq, List.length_map]; exact dtrue (Int.le_refl _)
        simp only [tagI, h12, res_b, Bool.not_true, cond_false, hz, cond_true, ne_eq, not_true, and_false, if_false, beq_self_eq_true, Bool.and_self, Bool.or_true, Nat.zero_add, Nat.le_refl, decide_true, whole_eq, plain_lets, hie]
        rfl
      · obtain ⟨c1, c2, c3, c4, c5⟩ := hc
        obtain ⟨f, rfl⟩ := Int.eq_ofNat_of_zero_le c4
        obtain ⟨g, rfl⟩ := Int.eq_ofNat_of_zero_le c2
        have hlen : 0 < xs.length := by omega
        have hf : (f + g) % xs.length < xs.length := Nat.mod_lt _ hlen
        have hf' : (f + g) % xs.length < (xs.map cpL).length := by simpa using hf
        have hz : decide ((g : Int) ≥ natI (xs.map cL).length) = false := by rw [natI_eq, List.length_map]; exact dfalse (by omega)
        have hg : ((xs.map cpL).map cL)[(f + g) % xs.length]? = some (cL (xs.map cpL)[(f + g) % xs.length]) := by rw [List.getElem?_map, List.getElem?_eq_getElem hf']; rfl
        have h5 := fun z0 z1 z2 z3 z4 => rset5 z0 z1 z2 z3 z4 hg
        simp only [Nat.zero_add] at h5
        have hrow : [D.str (cpL l).b, D.int .i64 (cpL l).v.k, D.int .i64 (cpL l).v.n, D.str (cpL l).v.s, D.sl (.im (cpL l).v.t) 1 ((cpL l).v.l.map encI)] = cL (cpL l) := rfl
        have hw : IntKind.wrap .i64 ((g : Int) + 1) = (g : Int) + 1 := wrap_i64 (by omega) (by omega)
        have hlt : decide ((f + g) % xs.length < ((xs.map cpL).map cL).length) = true := decide_eq_true (by simpa using hf)
        have hnz : (!decide (natI (xs.map cL).length = 0)) = true := by rw [natI_eq, List.length_map]; exact notz (by omega)
        have htm : IntKind.wrap .i64 ((f : Int) + (g : Int)) = ((f + g : Nat) : Int) := wrap_nat (by omega)
        have htm2 : (((f + g : Nat) : Int)).tmod (natI (xs.map cL).length) = (((f + g) % xs.length : Nat) : Int) := by rw [natI_eq, List.length_map]; rfl
        rw [if_neg (by simp : ¬ [l] = [])] at h21
        have h21' : Ct n 21 [.one (.d (.sl (.im false) 5 [[.str l.b, .int .i64 l.v.k, .int .i64 l.v.n, .str l.v.s, .sl (.im l.v.t) 1 (l.v.l.map encI)]]))] [] = some (mO [cpL l], []) := h21
        have hrm : ∀ K, tRes (R := V × List (List C)) (.val (.one (.sl 5)) []) (some (mO [cpL l], [])) K = _ := fun K => res_mo _ K
        have h00 : ([cpL l].map cL)[0]? = some (cL (cpL l)) := rfl
        have hd0 : decide (Int.toNat 0 < ([cpL l].map cL).length) = true := rfl
        have ht0 : Int.toNat 0 = 0 := rfl
        rw [ht0] at hd0
        simp only [tagI, h12, res_b, Bool.not_true, cond_false, hz, hnz, cond_true, h21', hrm, ht0, hd0, Nat.zero_add, h00, qOpt_some, drop0, take_L, len_L, Nat.reduceLeDiff, decide_true, Bool.and_self, tRow_eq _ (dec_L _), htm, htm2, asI_nat, hlt, hg, h5, hrow, set_map, beq_self_eq_true, Bool.or_true, Nat.le_refl, whole_eq, plain_lets, hw, ne_eq, h0, not_false_eq_true, and_self, if_true, Int.toNat_natCast]
        rfl
end Go.Proofs.Ytjndnconlakjkaa

set_option maxRecDepth 100000
set_option linter.unusedVariables false
set_option linter.unusedSimpArgs false
namespace Go.Proofs.Ytjndnconlakjkaa
open Go Go.Abs
variable {M : Nat}

def ringL (xs : List Let) (f : Nat) : Nat → Nat → List Let
  | 0, _ => []
  | c + 1, k => xs.getD ((f + k) % xs.length) zL :: ringL xs f c (k + 1)
theorem ringL_len (xs : List Let) (f : Nat) : ∀ c k, (ringL xs f c k).length = c
  | 0, _ => rfl
  | c + 1, k => by simp [ringL, ringL_len xs f c (k + 1)]
theorem getD_lt {xs : List Let} {i : Nat} (h : i < xs.length) : xs.getD i zL = xs[i] := by simp [h]
theorem ringL_ok {xs : List Let} (hx : okM M xs) (f : Nat) (hl : 0 < xs.length) : ∀ c k, ∀ x ∈ ringL xs f c k, okV M x.v
  | 0, _, x, h => by cases h
  | c + 1, k, x, h => by
    rcases List.mem_cons.1 h with h | h
    · subst h
      rw [getD_lt (Nat.mod_lt _ hl)]
      exact mem_get hx.2 _
    · exact ringL_ok hx f hl c (k + 1) x h
def listR (xs : List Let) (f g : Int) : List Let := if mayB xs f g = true then ringL xs f.toNat g.toNat 0 else []

/- rings.List -/
theorem list_loop {n : Nat} (hM : M ≤ 17592186044416) (hn : 2 ≤ n) (t : Bool) (xs : List Let) (hx : okM M xs) (f g : Nat) (hg : g ≤ xs.length) : ∀ (c k m : Nat) (acc : List Let), k + c = g → c < m → acc.length ≤ k →
    h14_0 (Ct n) n [] m (s14_0_2 t (xs.map cL) (f : Int) (g : Int) (acc.map cL) (g : Int) (k : Int)) = (if f + g ≤ 1000 then some (mA false (acc ++ ringL xs f c k), []) else h14_0 (Ct n) n [] m (s14_0_2 t (xs.map cL) (f : Int) (g : Int) (acc.map cL) (g : Int) (k : Int)))
  | c, k, 0, _, _, h, _ => by omega
  | 0, k, m + 1, acc, hk, hm, ha => by
    split
    · rw [ph14_0_2]
      simp only [nlt_len (show ¬ k < g by omega), cond_false, Nat.zero_add, Nat.le_refl, decide_true, cond_true, whole_eq, plain_lets, ringL, List.append_nil]
      rfl
    · rfl
  | c + 1, k, m + 1, acc, hk, hm, ha => by
    split
    · rename_i hfg
      have hl80 : xs.length ≤ 80 := hx.1
      rw [ph14_0_2]
      have hlt : (f + k) % xs.length < xs.length := Nat.mod_lt _ (by omega)
      have ih := list_loop hM hn t xs hx f g hg c (k + 1) m (acc ++ [xs[(f + k) % xs.length]]) (by omega) (by omega) (by simp; omega)
      rw [if_pos hfg] at ih
      have hat := atR (n := n) (by omega) t xs f k (g : Int) (by omega) (by omega)
      unfold rA at hat
      have hgt : (xs.map cL)[(f + k) % xs.length]? = some (cL xs[(f + k) % xs.length]) := by simp [hlt]
      have hc := ownL (n := n) hM hn xs[(f + k) % xs.length] (mem_get hx.2 hlt)
      have hr : ∀ K, tRes (R := V × List (List C)) (.val (.agg [.str, .int .i64, .int .i64, .str, .im 1]) []) (some (lA xs[(f + k) % xs.length], [])) K = _ := fun K => res_l _ K
      unfold lA at hc hr
      have hrow : [D.str xs[(f + k) % xs.length].b, D.int .i64 xs[(f + k) % xs.length].v.k, D.int .i64 xs[(f + k) % xs.length].v.n, D.str xs[(f + k) % xs.length].v.s, D.sl (.im xs[(f + k) % xs.length].v.t) 1 (xs[(f + k) % xs.length].v.l.map encI)] = cL xs[(f + k) % xs.length] := rfl
      have hb : decide (((acc.map cL).length + 1) * 72 ≤ 140737488355328) = true := dtrue (by rw [List.length_map]; omega)
      simp only [lt_len (show k < g by omega), cond_true, hat, res_i, asI_nat, qOpt_some, hgt, len_L, take_L, Nat.reduceLeDiff, decide_true, tRow_eq _ (dec_L _), hc, hr, beq_self_eq_true, Bool.and_self, hb, set0, hrow, snoc_map, next_i (j := k) (by omega), ih, ringL, getD_lt hlt, List.append_assoc, List.cons_append, List.nil_append]
    · rfl
theorem list12 (Cl : Oracle) (n : Nat) (a0 : Bool) (a1 : List (List D)) (a2 a3 : Int) (a4 : List (List D)) (a5 a6 : Int) : ∀ (m : Nat), 1 ≤ m → h14_0 Cl n [] m (s14_0_1 a0 a1 a2 a3 a4 a5 a6) = h14_0 Cl n [] m (s14_0_2 a0 a1 a2 a3 a4 a5 a6)
  | m + 1, _ => (ph14_0_1 Cl n m a0 a1 a2 a3 a4 a5 a6).trans (ph14_0_2 Cl n m a0 a1 a2 a3 a4 a5 a6).symm
theorem list0 {n : Nat} (hM : M ≤ 17592186044416) (hn : 2 ≤ n) (t : Bool) (xs : List Let) (hx : okM M xs) (f g : Nat) (hg : g ≤ xs.length) (hf : f ≤ 100) : ∀ (m : Nat), 100 ≤ m →
    h14_0 (Ct n) n [] m (s14_0_0 t (xs.map cL) (f : Int) (g : Int) true [] (g : Int) 0) = some (mA (ringL xs f g 0).isEmpty (ringL xs f g 0), [])
  | m + 1, hm => by
    have hl80 : xs.length ≤ 80 := hx.1
    rw [ph14_0_0]
    cases g with
    | zero =>
      have h0 : decide ((0 : Int) < ((0 : Nat) : Int)) = false := rfl
      simp only [h0, cond_false, ringL]
      rfl
    | succ g =>
      have hlt : (f + 0) % xs.length < xs.length := Nat.mod_lt _ (by omega)
      have h2 := list_loop hM hn t xs hx f (g + 1) hg g 1 m [xs[(f + 0) % xs.length]] (by omega) (by omega) (by simp)
      rw [if_pos (by omega)] at h2
      have hat := atR (n := n) (by omega) t xs f 0 ((g + 1 : Nat) : Int) (by omega) (by omega)
      unfold rA at hat
      have hat : Ct n 22 [.agg [.d (.sl (.im t) 5 (xs.map cL)), .d (.int .i64 (f : Int)), .d (.int .i64 ((g + 1 : Nat) : Int))], .one (.d (.int .i64 0))] [] = some (iR (((f + 0) % xs.length : Nat) : Int)) := hat
      have hgt : (xs.map cL)[(f + 0) % xs.length]? = some (cL xs[(f + 0) % xs.length]) := by simp only [List.getElem?_map, List.getElem?_eq_getElem hlt]; rfl
      have hc := ownL (n := n) hM hn xs[(f + 0) % xs.length] (mem_get hx.2 hlt)
      have hr : ∀ K, tRes (R := V × List (List C)) (.val (.agg [.str, .int .i64, .int .i64, .str, .im 1]) []) (some (lA xs[(f + 0) % xs.length], [])) K = _ := fun K => res_l _ K
      unfold lA at hc hr
      have hrow : [D.str xs[(f + 0) % xs.length].b, D.int .i64 xs[(f + 0) % xs.length].v.k, D.int .i64 xs[(f + 0) % xs.length].v.n, D.str xs[(f + 0) % xs.length].v.s, D.sl (.im xs[(f + 0) % xs.length].v.t) 1 (xs[(f + 0) % xs.length].v.l.map encI)] = cL xs[(f + 0) % xs.length] := rfl
      have h0 : decide ((0 : Int) < ((g + 1 : Nat) : Int)) = true := dtrue (by omega)
      have hw : IntKind.wrap .i64 (0 + 1) = ((1 : Nat) : Int) := by rw [wrap_i64 (by omega) (by omega)]; rfl
      have hL : ringL xs f (g + 1) 0 = xs[(f + 0) % xs.length] :: ringL xs f g (0 + 1) := by rw [ringL, getD_lt hlt]
      rw [hL]
      generalize xs[(f + 0) % xs.length] = y at *
      simp only [h0, cond_true, hat, res_i, asI_nat, qOpt_some, hgt, len_L, take_L, Nat.reduceLeDiff, decide_true, tRow_eq _ (dec_L _), hc, hr, Bool.and_self, hrow]
      rw [hw, list12 _ _ _ _ _ _ _ _ _ m (by omega)]
      exact h2
theorem listN {n : Nat} (hM : M ≤ 17592186044416) (hn : M + 104 ≤ n) (t : Bool) (xs : List Let) (hx : okM M xs) (f g : Int) : Ct n 14 [rA t xs f g] [] = some (mA (listR xs f g).isEmpty (listR xs f g), []) := by
  refine Ct_of (an := an14) (N := M + 103) rfl hn fun n hn => ?_
  have hl80 : xs.length ≤ 80 := hx.1
  have h11 := mayR (n := n) hM hn t xs hx f g
  unfold rA at h11 ⊢
  rw [p14]
  simp only [h11, res_b]
  unfold listR
  cases hm : mayB xs f g with
  | false => simp only [Bool.not_false, cond_true, Bool.false_eq_true, if_false]; rfl
  | true =>
    obtain ⟨c1, c2, c3, c4, c5⟩ := mayT hm
    obtain ⟨f, rfl⟩ := Int.eq_ofNat_of_zero_le c4
    obtain ⟨g, rfl⟩ := Int.eq_ofNat_of_zero_le c2
    have := list0 (n := n) hM (by omega) t xs hx f g (by omega) (by omega) n (by omega)
    simp only [Bool.not_true, cond_false, if_true, this]
    rfl
end Go.Proofs.Ytjndnconlakjkaa

set_option maxRecDepth 100000
set_option linter.unusedVariables false
set_option linter.unusedSimpArgs false
namespace Go.Proofs.Ytjndnconlakjkaa
open Go Go.Abs
variable {M : Nat}

/- reparteeref36.ListRing -/
theorem listRing_loop {n : Nat} (hM : M ≤ 17592186044416) (hn : M + 104 ≤ n) (t : Bool) (xs : List Let) (hx : okM M xs) (f g : Nat) (hB : mayB xs f g = true) : ∀ (c k m : Nat) (acc : List Let), k + c = g → c < m → acc.length ≤ k → acc ≠ [] → (∀ x ∈ acc, okV M x.v) →
    h15_0 (Ct n) n [] m (s15_0_2 t (xs.map cL) (f : Int) (g : Int) (acc.map cL) (k : Int)) = some (mA false ((acc ++ ringL xs f c k).map cpL), [])
  | c, k, 0, _, _, h, _, _, _ => by omega
  | 0, k, m + 1, acc, hk, hm, ha, hne, hok => by
    have hl80 : xs.length ≤ 80 := hx.1
    obtain ⟨c1, c2, c3, c4, c5⟩ := mayT hB
    rw [ph15_0_2]
    have h12 := ringMay (n := n) hM hn t xs hx f g
    rw [hB] at h12
    have h21 := copyMail (n := n) hM (by omega) false acc ⟨by omega, hok⟩
    rw [if_neg hne] at h21
    have hr : ∀ K, tRes (R := V × List (List C)) (.val (.one (.sl 5)) []) (some (mO (acc.map cpL), [])) K = _ := fun K => res_mo _ K
    unfold rA at h12
    unfold mA at h21
    simp only [h12, res_b, cond_true, nlt_len (show ¬ k < g by omega), cond_false, Nat.zero_add, Nat.le_refl, decide_true, whole_eq, plain_lets, h21, hr, tagI, ringL, List.append_nil]
    rfl
  | c + 1, k, m + 1, acc, hk, hm, ha, hne, hok => by
    have hl80 : xs.length ≤ 80 := hx.1
    obtain ⟨c1, c2, c3, c4, c5⟩ := mayT hB
    rw [ph15_0_2]
    have h12 := ringMay (n := n) hM hn t xs hx f g
    rw [hB] at h12
    have hlen : 0 < xs.length := by omega
    have hlt : (f + k) % xs.length < xs.length := Nat.mod_lt _ hlen
    have ih := listRing_loop hM hn t xs hx f g hB c (k + 1) m (acc ++ [xs[(f + k) % xs.length]]) (by omega) (by omega) (by simp; omega) (by simp)
      (by
        intro x hxm
        rcases List.mem_append.1 hxm with h | h
        · exact hok x h
        · rw [List.mem_singleton] at h; subst h; exact mem_get hx.2 hlt)
    have hgt : (xs.map cL)[(f + k) % xs.length]? = some (cL xs[(f + k) % xs.length]) := by simp [hlt]
    have hrow : [D.str xs[(f + k) % xs.length].b, D.int .i64 xs[(f + k) % xs.length].v.k, D.int .i64 xs[(f + k) % xs.length].v.n, D.str xs[(f + k) % xs.length].v.s, D.sl (.im xs[(f + k) % xs.length].v.t) 1 (xs[(f + k) % xs.length].v.l.map encI)] = cL xs[(f + k) % xs.length] := rfl
    have hb : decide (((acc.map cL).length + 1) * 72 ≤ 140737488355328) = true := dtrue (by rw [List.length_map]; omega)
    have hnz : (!decide (natI (xs.map cL).length = 0)) = true := by rw [natI_eq, List.length_map]; exact notz hlen
    have htm : IntKind.wrap .i64 ((f : Int) + (k : Int)) = ((f + k : Nat) : Int) := wrap_nat (by omega)
    have htm2 : (((f + k : Nat) : Int)).tmod (natI (xs.map cL).length) = (((f + k) % xs.length : Nat) : Int) := by rw [natI_eq, List.length_map]; rfl
    unfold rA at h12
    simp only [h12, res_b, cond_true, lt_len (show k < g by omega), hnz, htm, htm2, asI_nat, qOpt_some, hgt, len_L, take_L, Nat.reduceLeDiff, decide_true, tRow_eq _ (dec_L _), beq_self_eq_true, Bool.and_self, hb, set0, hrow, snoc_map, next_i (j := k) (by omega), ih, ringL, getD_lt hlt, List.append_assoc, List.cons_append, List.nil_append]
theorem listRing12 (Cl : Oracle) (n : Nat) (a0 : Bool) (a1 : List (List D)) (a2 a3 : Int) (a4 : List (List D)) (a5 : Int) : ∀ (m : Nat), 1 ≤ m → h15_0 Cl n [] m (s15_0_1 a0 a1 a2 a3 a4 a5) = h15_0 Cl n [] m (s15_0_2 a0 a1 a2 a3 a4 a5)
  | m + 1, _ => (ph15_0_1 Cl n m a0 a1 a2 a3 a4 a5).trans (ph15_0_2 Cl n m a0 a1 a2 a3 a4 a5).symm
def ne0 (xs : List Let) : Bool := xs.isEmpty
theorem listRing0 {n : Nat} (hM : M ≤ 17592186044416) (hn : M + 104 ≤ n) (t : Bool) (xs : List Let) (hx : okM M xs) (f g : Int) : ∀ (m : Nat), 100 ≤ m →
    h15_0 (Ct n) n [] m (s15_0_0 t (xs.map cL) f g true [] 0) = some (mA (listR xs f g).isEmpty ((listR xs f g).map cpL), [])
  | m + 1, hm => by
    have hl80 : xs.length ≤ 80 := hx.1
    have h12 := ringMay (n := n) hM hn t xs hx f g
    unfold rA at h12
    have h21 := copyMail (n := n) hM (by omega) true [] ⟨by simp, fun x h => by cases h⟩
    rw [if_pos rfl] at h21
    have hr : ∀ K, tRes (R := V × List (List C)) (.val (.one (.sl 5)) []) (some (mA true [], [])) K = _ := fun K => res_ms _ _ K
    have h21' : Ct n 21 [.one (.d (.sl (.im true) 5 []))] [] = some (mA true [], []) := h21
    rw [ph15_0_0]
    unfold listR
    cases hB : mayB xs f g with
    | false =>
      rw [hB] at h12
      simp only [h12, res_b, cond_false, h21', hr, tagI, Bool.false_eq_true, if_false]
      rfl
    | true =>
      rw [hB] at h12
      have hB' := hB
      obtain ⟨c1, c2, c3, c4, c5⟩ := mayT hB
      obtain ⟨f, rfl⟩ := Int.eq_ofNat_of_zero_le c4
      obtain ⟨g, rfl⟩ := Int.eq_ofNat_of_zero_le c2
      cases g with
      | zero =>
        have h0 : decide ((0 : Int) < ((0 : Nat) : Int)) = false := rfl
        simp only [h12, res_b, cond_true, h0, cond_false, h21', hr, tagI, if_true]
        rfl
      | succ g =>
        have hlen : 0 < xs.length := by omega
        have hlt : (f + 0) % xs.length < xs.length := Nat.mod_lt _ hlen
        have h2 := listRing_loop hM hn t xs hx f (g + 1) hB g 1 m [xs[(f + 0) % xs.length]] (by omega) (by omega) (by simp) (by simp)
          (by intro x hxm; rw [List.mem_singleton] at hxm; subst hxm; exact mem_get hx.2 hlt)
        have hgt : (xs.map cL)[(f + 0) % xs.length]? = some (cL xs[(f + 0) % xs.length]) := by simp only [List.getElem?_map, List.getElem?_eq_getElem hlt]; rfl
        have hrow : [D.str xs[(f + 0) % xs.length].b, D.int .i64 xs[(f + 0) % xs.length].v.k, D.int .i64 xs[(f + 0) % xs.length].v.n, D.str xs[(f + 0) % xs.length].v.s, D.sl (.im xs[(f + 0) % xs.length].v.t) 1 (xs[(f + 0) % xs.length].v.l.map encI)] = cL xs[(f + 0) % xs.length] := rfl
        have h0 : decide ((0 : Int) < ((g + 1 : Nat) : Int)) = true := dtrue (by omega)
        have hw : IntKind.wrap .i64 (0 + 1) = ((1 : Nat) : Int) := by rw [wrap_i64 (by omega) (by omega)]; rfl
        have hL : ringL xs f (g + 1) 0 = xs[(f + 0) % xs.length] :: ringL xs f g (0 + 1) := by rw [ringL, getD_lt hlt]
        have hnz : (!decide (natI (xs.map cL).length = 0)) = true := by rw [natI_eq, List.length_map]; exact notz hlen
        have htm : IntKind.wrap .i64 ((f : Int) + 0) = ((f + 0 : Nat) : Int) := by rw [wrap_i64 (by omega) (by omega)]; rfl
        have htm2 : (((f + 0 : Nat) : Int)).tmod (natI (xs.map cL).length) = (((f + 0) % xs.length : Nat) : Int) := by rw [natI_eq, List.length_map]; rfl
        rw [if_pos rfl]
        have hL' : ringL xs (Int.toNat (f : Int)) (Int.toNat ((g + 1 : Nat) : Int)) 0 = xs[(f + 0) % xs.length] :: ringL xs f g (0 + 1) := hL
        rw [hL']
        generalize xs[(f + 0) % xs.length] = y at *
        simp only [h12, res_b, h0, cond_true, hnz, htm]
        rw [htm2]
        simp only [asI_nat, qOpt_some, hgt, len_L, take_L, Nat.reduceLeDiff, decide_true, tRow_eq _ (dec_L _), Bool.and_self, cond_true, hrow]
        rw [hw, listRing12 _ _ _ _ _ _ _ _ m (by omega)]
        exact h2
theorem listRing {n : Nat} (hM : M ≤ 17592186044416) (hn : M + 105 ≤ n) (t : Bool) (xs : List Let) (hx : okM M xs) (f g : Int) : Ct n 15 [rA t xs f g] [] = some (mA (listR xs f g).isEmpty ((listR xs f g).map cpL), []) := by
  refine Ct_of (an := an15) (N := M + 104) rfl hn fun n hn => ?_
  unfold rA
  rw [p15]
  exact listRing0 hM hn t xs hx f g n (by omega)

/- few -/
structure Act where
  tk : Bool
  l : Let
def cA (a : Act) : List D := .bool a.tk :: cL a.l
def smallA (a : Act) : Prop := a.l.b.length ≤ 100 ∧ a.l.v.l.length ≤ 40 ∧ a.l.v.s.length ≤ 200
instance (a : Act) : Decidable (smallA a) := by unfold smallA; infer_instance
def fewB (xs : List Let) (zs : List Act) : Bool := (zs.take 100).all (fun a => decide (smallA a)) && (decide (xs.length ≤ 80) && decide (zs.length ≤ 80))
theorem few_rest (b c : Bool) : (bif b then some (bR c) else some (bR false)) = some (bR (b && c)) := by cases b <;> rfl
theorem dlen (a : Act) : (List.drop 1 (cA a)) = cL a.l := rfl
theorem dec_s1 (x : Let) : decRow [.str] (List.take 1 (List.drop 0 (cL x))) = some (x.b, ()) := by simp [cL, cV, decRow, decD]
theorem dec_s2 (x : Let) : decRow [.im 1] (List.take 1 (List.drop 3 (List.drop 1 (cL x)))) = some ((x.v.t, x.v.l.map encI), ()) := by simp [cL, cV, decRow, decD]
theorem dec_s3 (x : Let) : decRow [.str] (List.take 1 (List.drop 2 (List.drop 1 (cL x)))) = some (x.v.s, ()) := by simp [cL, cV, decRow, decD]
theorem few_loop (Cl : Oracle) (n : Nat) (t t' : Bool) (xs : List Let) (f g : Int) (zs : List Act) : ∀ (c k m : Nat), k + c = 100 → c < m →
    h6_0 Cl n [] m (s6_0_0 t (zs.map cA) t' (xs.map cL) f g (k : Int)) = some (bR (((zs.drop k).take c).all (fun a => decide (smallA a)) && (decide (xs.length ≤ 80) && decide (zs.length ≤ 80))))
  | c, k, 0, _, h => by omega
  | c, k, m + 1, hk, hm => by
    have end1 : ∀ (b c : Bool), (bif b then some ((.one (.d (.bool c))), []) else some ((.one (.d (.bool false))), [])) = some (bR (b && c)) := few_rest
    have e80 : ∀ a : Nat, decide ((a : Int) ≤ 80) = decide (a ≤ 80) := by
      intro a
      by_cases h : a ≤ 80
      · rw [dtrue h, dtrue (by omega)]
      · rw [dfalse h, dfalse (by omega)]
    rw [ph6_0_0]
    by_cases hlt : k < zs.length
    · cases c with
      | zero =>
        have hk100 : decide ((k : Int) < 100) = false := dfalse (by omega)
        simp only [natI_eq, List.length_map, lt_len hlt, cond_true, hk100, cond_false, e80, end1, List.take_zero, List.all_nil, Bool.true_and]
      | succ c =>
        have ih := few_loop Cl n t t' xs f g zs c (k + 1) m (by omega) (by omega)
        have hk100 : decide ((k : Int) < 100) = true := dtrue (by omega)
        have hgt : (zs.map cA)[k]? = some (cA zs[k]) := by simp [hlt]
        rw [drop_cons hlt, List.take_succ_cons, List.all_cons]
        have hd3 : (1 ≤ (List.drop 3 (List.drop 1 (cL zs[k].l))).length) = True := by simp [cL, cV]
        have hd2 : (1 ≤ (List.drop 2 (List.drop 1 (cL zs[k].l))).length) = True := by simp [cL, cV]
        have hd0 : (1 ≤ (List.drop 0 (cL zs[k].l)).length) = True := by simp [cL, cV]
        have a1 : (((zs[k].l.b.length : Nat) : Int) > 100) = ¬ (zs[k].l.b.length ≤ 100) := propext (by omega)
        have a2 : (((zs[k].l.v.l.length : Nat) : Int) > 40) = ¬ (zs[k].l.v.l.length ≤ 40) := propext (by omega)
        have a3 : (((zs[k].l.v.s.length : Nat) : Int) > 200) = ¬ (zs[k].l.v.s.length ≤ 200) := propext (by omega)
        have hs : decide (smallA zs[k]) = (decide (zs[k].l.b.length ≤ 100) && (decide (zs[k].l.v.l.length ≤ 40) && decide (zs[k].l.v.s.length ≤ 200))) := by
          unfold smallA
          by_cases h1 : zs[k].l.b.length ≤ 100 <;> by_cases h2 : zs[k].l.v.l.length ≤ 40 <;> by_cases h3 : zs[k].l.v.s.length ≤ 200 <;> simp [h1, h2, h3]
        rw [hs]
        simp only [natI_eq, List.length_map, lt_len hlt, cond_true, hk100, asI_nat, qOpt_some, hgt, dlen, hd0, hd2, hd3, tRow_eq _ (dec_s1 _), tRow_eq _ (dec_s2 _), tRow_eq _ (dec_s3 _), a1, a2, a3, decide_not, decide_true, next_i (j := k) (by omega), ih]
        cases decide (zs[k].l.b.length ≤ 100) <;> cases decide (zs[k].l.v.l.length ≤ 40) <;> cases decide (zs[k].l.v.s.length ≤ 200) <;> rfl
    · have hd : zs.drop k = [] := List.drop_eq_nil_of_le (by omega)
      simp only [natI_eq, List.length_map, nlt_len hlt, cond_false, e80, end1, hd, List.take_nil, List.all_nil, Bool.true_and]
theorem fewN {n : Nat} (hn : 102 ≤ n) (t t' : Bool) (xs : List Let) (f g : Int) (zs : List Act) : Ct n 6 [rA t' xs f g, .one (.d (.sl (.im t) 6 (zs.map cA)))] [] = some (bR (fewB xs zs)) := by
  refine Ct_of (an := an6) (N := 101) rfl hn fun n hn => ?_
  unfold rA
  rw [p6]
  exact few_loop (Ct n) n t t' xs f g zs 100 0 n (by omega) (by omega)
end Go.Proofs.Ytjndnconlakjkaa

