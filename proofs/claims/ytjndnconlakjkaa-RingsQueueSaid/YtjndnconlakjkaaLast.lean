/- The claim: reparteelaw37.RingsQueue answers true at every input, and its arguments read behind the call as before. No condition. -/
import Derived.Test.YtjndnconlakjkaaPlain
import Derived.Test.YtjndnconlakjkaaAbsFrame4
import Derived.Test.YtjndnconlakjkaaRows
import Derived.ProofKit
set_option maxRecDepth 100000
set_option linter.unusedVariables false
set_option linter.unusedSimpArgs false
namespace Go.Proofs.Ytjndnconlakjkaa
open Go Go.Abs
variable {M : Nat}

section
variable {R : Type}
theorem res_put (t : Bool) (xs : List Let) (f g : Int) (b : Bool) (K) : tRes (R := R) (.tup [(.agg [.im 5, .int .i64, .int .i64]), (.one (.bool))] []) (some (.tup [rA t xs f g, .one (.d (.bool b))], [])) K = K ((((t, xs.map cL), f, g, ()), b, ()), ()) := by
  simp [tRes, rA, decR, decV, decVs, decD, decBs, dataL, decRow]
theorem res_take (t : Bool) (xs : List Let) (f g : Int) (x : Let) (b : Bool) (K) : tRes (R := R) (.tup [(.agg [.im 5, .int .i64, .int .i64]), (.agg [.str, .int .i64, .int .i64, .str, .im 1]), (.one (.bool))] []) (some (.tup [rA t xs f g, lA x, .one (.d (.bool b))], [])) K = K ((((t, xs.map cL), f, g, ()), (x.b, x.v.k, x.v.n, x.v.s, (x.v.t, x.v.l.map encI), ()), b, ()), ()) := by
  simp [tRes, rA, lA, decR, decV, decVs, decD, decBs, dataL, decRow]
end

def LX : Let := ⟨[120], zV⟩
def LY : Let := ⟨[121], zV⟩
def LZ : Let := ⟨[122], zV⟩
theorem okZ (M : Nat) : okV M zV := ⟨fun _ => rfl, Nat.zero_le _⟩
theorem ok2 (M : Nat) (a b : Let) (ha : a.v = zV) (hb : b.v = zV) : okM M [a, b] := by
  refine ⟨by simp, fun x hx => ?_⟩
  simp only [List.mem_cons, List.not_mem_nil, or_false] at hx
  rcases hx with rfl | rfl
  · rw [ha]; exact okZ M
  · rw [hb]; exact okZ M
theorem fst1 : putR false [zL, zL] 0 0 LX = .tup [rA false [LX, zL] 0 1, .one (.d (.bool true))] := by
  unfold putR; rw [if_pos (by decide)]; rfl
theorem fst2 : putR false [LX, zL] 0 1 LY = .tup [rA false [LX, LY] 0 2, .one (.d (.bool true))] := by
  unfold putR; rw [if_pos (by decide)]; rfl
theorem fst3 : putR false [LX, LY] 0 2 LZ = .tup [rA false [LX, LY] 0 2, .one (.d (.bool false))] := by
  unfold putR; rw [if_neg (by decide)]
theorem fst4 : takeR false [LX, LY] 0 2 = .tup [rA false [zL, LY] 1 1, lA LX, .one (.d (.bool true))] := by
  unfold takeR; rw [if_pos (by decide)]; rfl
theorem fst5 : listR [LX, LY] 0 2 = [LX, LY] := by
  unfold listR; rw [if_pos (by decide)]; rfl
theorem fst6 : listR [zL, LY] 1 1 = [LY] := by
  unfold listR; rw [if_pos (by decide)]; rfl
theorem fst7 : mayB [zL, LY] 1 1 = true := by decide
theorem firstN {n : Nat} (hM : M ≤ 1048576) (hn : M + 105 ≤ n) : Ct n 5 [] [] = some (bR true) := by
  refine Ct_of (an := an5) (N := M + 104) rfl hn fun n hn => ?_
  rw [p5]
  have h0 : Ct n 7 [.one (.d (.int .i64 2))] [] = some (rA false [zL, zL] 0 0, []) := newRing (by omega) 2
  have h1 := putN (n := n) hM hn false [zL, zL] (by simp) (ok2 M _ _ rfl rfl) 0 0 LX (okZ M)
  have h2 := putN (n := n) hM hn false [LX, zL] (by simp) (ok2 M _ _ rfl rfl) 0 1 LY (okZ M)
  have h3 := putN (n := n) hM hn false [LX, LY] (by simp) (ok2 M _ _ rfl rfl) 0 2 LZ (okZ M)
  have h4 := takeN (n := n) hM hn false [LX, LY] (by simp) (ok2 M _ _ rfl rfl) 0 2
  have h5 := listN (n := n) hM hn false [LX, LY] (ok2 M _ _ rfl rfl) 0 2
  have h6 := listN (n := n) hM hn false [zL, LY] (ok2 M _ _ rfl rfl) 1 1
  have h7 := mayR (n := n) hM (by omega) false [zL, LY] (ok2 M _ _ rfl rfl) 1 1
  rw [fst1] at h1
  rw [fst2] at h2
  rw [fst3] at h3
  rw [fst4] at h4
  rw [fst5] at h5
  rw [fst6] at h6
  rw [fst7] at h7
  have hX : lA LX = .agg [.d (.str [120]), .d (.int .i64 0), .d (.int .i64 0), .d (.str []), .d (.sl (.im true) 1 [])] := rfl
  have hY : lA LY = .agg [.d (.str [121]), .d (.int .i64 0), .d (.int .i64 0), .d (.str []), .d (.sl (.im true) 1 [])] := rfl
  have hZ : lA LZ = .agg [.d (.str [122]), .d (.int .i64 0), .d (.int .i64 0), .d (.str []), .d (.sl (.im true) 1 [])] := rfl
  rw [hX] at h1
  rw [hY] at h2
  rw [hZ] at h3
  have e1 : (natI (List.map cL [LX, LY]).length == 2) = true := rfl
  have e2 : (natI (List.map cL [LY]).length == 1) = true := rfl
  have e3 : (LX.b == [120]) = true := rfl
  have e4 : ((0 : Int) == 0) = true := rfl
  rw [h0, res_r]
  unfold rA at h1 h2 h3 h4 h5 h6 h7
  simp only [] at h1 ⊢
  rw [h1]
  erw [res_put]
  rw [h2]
  erw [res_put]
  rw [h3]
  erw [res_put]
  rw [h4]
  erw [res_take]
  simp only [cond_true, cond_false, Bool.not_false, h5, res_m, e1, h6, e2, h7, res_b, h0, res_r, e3, e4]
  rfl
end Go.Proofs.Ytjndnconlakjkaa

set_option maxRecDepth 100000
set_option linter.unusedVariables false
set_option linter.unusedSimpArgs false
namespace Go.Proofs.Ytjndnconlakjkaa
open Go Go.Abs
variable {M : Nat}

def stL (x : Let) : Let := { x with v := { x.v with t := false } }
theorem st_cp (x : Let) : stL (cpL x) = stL x := rfl
theorem st_cps (xs : List Let) : (xs.map cpL).map stL = xs.map stL := by rw [List.map_map]; rfl
theorem eqL_st {x y : Let} (h : stL x = stL y) : eqL x y = true := by
  have h1 : eqL x y = eqL (stL x) (stL y) := rfl
  rw [h1, h]
  unfold eqL eqV
  simp
def Sim (xs ys : List Let) : Prop := xs.map stL = ys.map stL
theorem Sim.len {xs ys : List Let} (h : Sim xs ys) : xs.length = ys.length := by
  have := congrArg List.length h
  simpa using this
theorem Sim.same : ∀ {xs ys : List Let}, Sim xs ys → sameM xs ys = true
  | [], [], _ => rfl
  | x :: xs, y :: ys, h => by
    unfold Sim at h
    simp only [List.map_cons, List.cons.injEq] at h
    unfold sameM
    rw [eqL_st h.1, Sim.same h.2]
    rfl
  | [], _ :: _, h => by cases h
  | _ :: _, [], h => by cases h
theorem Sim.cp {xs ys : List Let} (h : Sim xs ys) : Sim xs (ys.map cpL) := by unfold Sim; rw [st_cps]; exact h
theorem Sim.set {xs ys : List Let} (h : Sim xs ys) (i : Nat) {a b : Let} (hab : stL a = stL b) : Sim (xs.set i a) (ys.set i b) := by
  unfold Sim at h ⊢
  rw [List.map_set, List.map_set, h, hab]
theorem Sim.get {xs ys : List Let} (h : Sim xs ys) {i : Nat} (hi : i < xs.length) : stL (xs.getD i zL) = stL (ys.getD i zL) := by
  have hi' : i < ys.length := by rw [← h.len]; exact hi
  rw [getD_lt hi, getD_lt hi']
  have := congrArg (fun l => l[i]?) h
  simpa [hi, hi'] using this
theorem zat_st (xs : List Let) (i : Nat) : zat (xs.map stL) i = zat xs i := by
  unfold zat
  rw [List.getElem?_map]
  cases xs[i]? <;> rfl
theorem zrun_st (xs : List Let) (f : Nat) : ∀ c k, zrun (xs.map stL) f c k = zrun xs f c k
  | 0, _ => rfl
  | c + 1, k => by unfold zrun; rw [zat_st, zrun_st xs f c (k + 1), List.length_map]
theorem may_st (xs : List Let) (f g : Int) : mayB (xs.map stL) f g = mayB xs f g := by
  unfold mayB
  rw [zrun_st, List.length_map]
  congr 1
  unfold mayC
  simp only [List.length_map]
theorem Sim.may {xs ys : List Let} (h : Sim xs ys) (f g : Int) : mayB xs f g = mayB ys f g := by
  rw [← may_st xs, ← may_st ys]; unfold Sim at h; rw [h]
theorem Sim.ring {xs ys : List Let} (h : Sim xs ys) (f : Nat) (hl : 0 < xs.length) : ∀ c k, Sim (ringL xs f c k) (ringL ys f c k)
  | 0, _ => rfl
  | c + 1, k => by
    have ih := Sim.ring h f hl c (k + 1)
    unfold Sim at ih ⊢
    unfold ringL
    rw [List.map_cons, List.map_cons, ih, ← h.len, h.get (Nat.mod_lt _ hl)]
theorem Sim.list {xs ys : List Let} (h : Sim xs ys) (f g : Int) : Sim (listR xs f g) (listR ys f g) := by
  unfold listR
  rw [← h.may f g]
  split
  · rename_i hm
    obtain ⟨c1, c2, c3, c4, c5⟩ := mayT hm
    by_cases hl : 0 < xs.length
    · exact h.ring f.toNat hl _ _
    · have : g = 0 := by omega
      subst this
      rfl
  · rfl
theorem okV_cp {v : V4} (h : okV M v) : okV M (cpV v) := by
  refine ⟨fun ht => ?_, h.2⟩
  have ht : v.l.isEmpty = true := ht
  show v.l = []
  cases hv : v.l with
  | nil => rfl
  | cons a t => rw [hv] at ht; cases ht
theorem okM_cp {xs : List Let} (h : okM M xs) : okM M (xs.map cpL) := by
  refine ⟨by rw [List.length_map]; exact h.1, fun x hx => ?_⟩
  obtain ⟨y, hy, rfl⟩ := List.mem_map.1 hx
  exact okV_cp (h.2 y hy)
theorem okM_set {xs : List Let} (h : okM M xs) (i : Nat) {a : Let} (ha : okV M a.v) : okM M (xs.set i a) := by
  refine ⟨by rw [List.length_set]; exact h.1, fun x hx => ?_⟩
  rcases List.mem_or_eq_of_mem_set hx with h1 | h1
  · exact h.2 x h1
  · rw [h1]; exact ha
theorem okM_list {xs : List Let} (h : okM M xs) (f g : Int) : okM M (listR xs f g) := by
  unfold listR
  split
  · rename_i hm
    obtain ⟨c1, c2, c3, c4, c5⟩ := mayT hm
    have hl80 := h.1
    refine ⟨by rw [ringL_len]; omega, ?_⟩
    by_cases hl : 0 < xs.length
    · exact ringL_ok h _ hl _ _
    · have : g = 0 := by omega
      subst this
      intro x hx
      cases hx
  · exact ⟨by simp, fun x hx => by cases hx⟩

structure Inv (M : Nat) (t : Bool) (xs ys : List Let) : Prop where
  ox : okM M xs
  oy : okM M ys
  ht : t = true → xs = []
  sim : Sim xs ys
theorem Inv.cp {t : Bool} {xs ys : List Let} (h : Inv M t xs ys) : Inv M t xs (ys.map cpL) := ⟨h.ox, okM_cp h.oy, h.ht, h.sim.cp⟩
theorem Inv.set {t : Bool} {xs ys : List Let} (h : Inv M t xs ys) (i : Nat) {a b : Let} (ha : okV M a.v) (hb : okV M b.v) (hab : stL a = stL b) : Inv M t (xs.set i a) ((ys.map cpL).set i b) :=
  ⟨okM_set h.ox i ha, okM_set (okM_cp h.oy) i hb, fun ht => by rw [h.ht ht]; rfl, h.sim.cp.set i hab⟩

theorem dec_tk (a : Act) : decRow [.bool] (List.take 1 (List.drop 0 (cA a))) = some (a.tk, ()) := by simp [cA, cL, cV, decRow, decD]
theorem take5 (a : Act) : List.take 5 (List.drop 1 (cA a)) = cL a.l := rfl
theorem notxor (b : Bool) : (!b == b) = false := by cases b <;> rfl

theorem tell_loop {n : Nat} (hM : M ≤ 1048576) (hn : M + 106 ≤ n) (ta : Bool) (zs : List Act) (hz : zs.length ≤ 80) (hzs : ∀ a ∈ zs, okV M a.l.v) : ∀ (m j : Nat) (t t' : Bool) (xs ys : List Let) (f g : Int), j ≤ zs.length → zs.length - j < m → Inv M t xs ys →
    h3_0 (Ct n) n [] m (s3_0_0 ta (zs.map cA) t (xs.map cL) f g t' (ys.map cL) f g (j : Int)) = some (bR true)
  | 0, j, _, _, _, _, _, _, _, h, _ => by omega
  | m + 1, j, t, t', xs, ys, f, g, hj, hm, I => by
    rw [ph3_0_0]
    have h11 := mayR (n := n) hM (by omega) t xs I.ox f g
    have h12 := ringMay (n := n) hM (by omega) t' ys I.oy f g
    rw [← I.sim.may f g] at h12
    have h14 := listN (n := n) hM (by omega) t xs I.ox f g
    have h15 := listRing (n := n) hM (by omega) t' ys I.oy f g
    have h13 := sameMail (n := n) hM (by omega) (listR xs f g).isEmpty (listR ys f g).isEmpty (listR xs f g) ((listR ys f g).map cpL) (okM_list I.ox f g)
    rw [(I.sim.list f g).cp.same] at h13
    have h8 := sameRing (n := n) hM (by omega) t t' xs ys I.ox f g f g
    rw [I.sim.same] at h8
    have h8 : Ct n 8 [rA t xs f g, rA t' ys f g] [] = some (bR true) := by rw [h8]; simp
    have hle : decide ((j : Int) ≤ natI (zs.map cA).length) = true := by rw [natI_eq, List.length_map]; exact dtrue (by omega)
    unfold rA at h11 h12 h14 h15 h8
    unfold mA at h13
    simp only [hle, cond_true, h11, res_b, h12, notxor, cond_false, h14, res_m, h15, h13, Bool.not_true, h8]
    by_cases hlt : j < zs.length
    · have hne : ((j : Int) == natI (zs.map cA).length) = false := by
        rw [natI_eq, List.length_map]; exact beq_false_of_ne (by omega)
      have hgt : (zs.map cA)[j]? = some (cA zs[j]) := by simp [hlt]
      have d1 : (1 ≤ (List.drop 0 (cA zs[j])).length) = True := by simp [cA]
      have d5 : (5 ≤ (List.drop 1 (cA zs[j])).length) = True := by simp [cA, cL, cV]
      have hok := mem_get hzs hlt
      simp only [hne, cond_false, asI_nat, qOpt_some, hgt, d1, decide_true, cond_true, tRow_eq _ (dec_tk _)]
      cases htk : zs[j].tk with
      | true =>
        simp only [cond_true]
        have h16 := takeN (n := n) hM (by omega) t xs I.ht I.ox f g
        have h17 := takeRing (n := n) hM (by omega) t' ys I.oy f g
        unfold takeR at h16
        unfold takeRR at h17
        rw [← I.sim.may f g, ← I.sim.len] at h17
        by_cases hc : mayB xs f g = true ∧ g ≠ 0
        · rw [if_pos hc] at h16 h17
          obtain ⟨c1, c2, c3, c4, c5⟩ := mayT hc.1
          have hfl : f.toNat < xs.length := by omega
          have hst : stL (xs.getD f.toNat zL) = stL ((ys.map cpL).getD f.toNat zL) := I.sim.cp.get hfl
          have ih := tell_loop hM hn ta zs hz hzs m (j + 1) t false (xs.set f.toNat zL) ((ys.map cpL).set f.toNat zL) (((f.toNat + 1) % xs.length : Nat) : Int) (g - 1) (by omega) (by omega) (I.set f.toNat (okZ M) (okZ M) rfl)
          generalize hX : xs.getD f.toNat zL = X at *
          generalize hY : (ys.map cpL).getD f.toNat zL = Y at *
          have hoX : okV M X.v := by rw [← hX, getD_lt hfl]; exact mem_get I.ox.2 hfl
          have hs := sameMail (n := n) hM (by omega) false false [X] [Y] ⟨by simp, fun x hx => by rw [List.mem_singleton] at hx; subst hx; exact hoX⟩
          rw [Sim.same (show Sim [X] [Y] by unfold Sim; rw [List.map_cons, List.map_cons, hst])] at hs
          have hs : Ct n 13 [.one (.d (.sl (.im false) 5 [[.str X.b, .int .i64 X.v.k, .int .i64 X.v.n, .str X.v.s, .sl (.im X.v.t) 1 (X.v.l.map encI)]])), .one (.d (.sl (.im false) 5 [[.str Y.b, .int .i64 Y.v.k, .int .i64 Y.v.n, .str Y.v.s, .sl (.im Y.v.t) 1 (Y.v.l.map encI)]]))] [] = some (bR true) := hs
          have r16 := fun K => res_take (R := V × List (List C)) t (xs.set f.toNat zL) (((f.toNat + 1) % xs.length : Nat) : Int) (g - 1) X true K
          have r17 := fun K => res_take (R := V × List (List C)) false ((ys.map cpL).set f.toNat zL) (((f.toNat + 1) % xs.length : Nat) : Int) (g - 1) Y true K
          unfold rA at h16 h17 r16 r17
          simp only [h16, h17, r16, r17, notxor, cond_false, hs, res_b, Bool.not_true, next_i (j := j) (by omega), ih]
        · rw [if_neg hc] at h16 h17
          have ih := tell_loop hM hn ta zs hz hzs m (j + 1) t ys.isEmpty xs (ys.map cpL) f g (by omega) (by omega) I.cp
          have hs := sameMail (n := n) hM (by omega) false false [zL] [zL] ⟨by simp, fun x hx => by rw [List.mem_singleton] at hx; subst hx; exact okZ M⟩
          rw [Sim.same (show Sim [zL] [zL] from rfl)] at hs
          have hs : Ct n 13 [.one (.d (.sl (.im false) 5 [[.str zL.b, .int .i64 zL.v.k, .int .i64 zL.v.n, .str zL.v.s, .sl (.im zL.v.t) 1 (zL.v.l.map encI)]])), .one (.d (.sl (.im false) 5 [[.str zL.b, .int .i64 zL.v.k, .int .i64 zL.v.n, .str zL.v.s, .sl (.im zL.v.t) 1 (zL.v.l.map encI)]]))] [] = some (bR true) := hs
          have r16 := fun K => res_take (R := V × List (List C)) t xs f g zL false K
          have r17 := fun K => res_take (R := V × List (List C)) ys.isEmpty (ys.map cpL) f g zL false K
          unfold rA at h16 h17 r16 r17
          generalize zL = Z at *
          simp only [h16, h17, r16, r17, notxor, cond_false, hs, res_b, Bool.not_true, next_i (j := j) (by omega), ih]
      | false =>
        simp only [cond_false, d5, decide_true, cond_true, take5, tRow_eq _ (dec_L _)]
        have h18 := putN (n := n) hM (by omega) t xs I.ht I.ox f g zs[j].l hok
        have h19 := putRing (n := n) hM (by omega) t' ys I.oy f g zs[j].l hok
        unfold putR at h18
        unfold putRR at h19
        rw [← I.sim.may f g, ← I.sim.len] at h19
        by_cases hc : mayB xs f g = true ∧ g ≠ xs.length
        · rw [if_pos hc] at h18 h19
          have ih := tell_loop hM hn ta zs hz hzs m (j + 1) t false (xs.set ((f.toNat + g.toNat) % xs.length) zs[j].l) ((ys.map cpL).set ((f.toNat + g.toNat) % xs.length) (cpL zs[j].l)) f (g + 1) (by omega) (by omega) (I.set _ hok (okV_cp hok) rfl)
          have r18 := fun K => res_put (R := V × List (List C)) t (xs.set ((f.toNat + g.toNat) % xs.length) zs[j].l) f (g + 1) true K
          have r19 := fun K => res_put (R := V × List (List C)) false ((ys.map cpL).set ((f.toNat + g.toNat) % xs.length) (cpL zs[j].l)) f (g + 1) true K
          unfold lA at h18 h19
          unfold rA at h18 h19 r18 r19
          simp only [h18, h19, r18, r19, notxor, cond_false, next_i (j := j) (by omega), ih]
        · rw [if_neg hc] at h18 h19
          have ih := tell_loop hM hn ta zs hz hzs m (j + 1) t ys.isEmpty xs (ys.map cpL) f g (by omega) (by omega) I.cp
          have r18 := fun K => res_put (R := V × List (List C)) t xs f g false K
          have r19 := fun K => res_put (R := V × List (List C)) ys.isEmpty (ys.map cpL) f g false K
          unfold lA at h18 h19
          unfold rA at h18 h19 r18 r19
          simp only [h18, h19, r18, r19, notxor, cond_false, next_i (j := j) (by omega), ih]
    · have hj' : j = zs.length := by omega
      have he : ((j : Int) == natI (zs.map cA).length) = true := by rw [natI_eq, List.length_map, hj']; exact beq_self_eq_true _
      simp only [he, cond_true]
      rfl
end Go.Proofs.Ytjndnconlakjkaa

set_option maxRecDepth 100000
set_option linter.unusedVariables false
set_option linter.unusedSimpArgs false
namespace Go.Proofs.Ytjndnconlakjkaa
open Go Go.Abs
variable {M : Nat}

theorem tell01 (Cl : Oracle) (n : Nat) (a0 : Bool) (a1 : List (List D)) (a2 : Bool) (a3 : List (List D)) (a4 a5 : Int) (ys : List Let) (a7 a8 a9 : Int) : ∀ (m : Nat), 1 ≤ m →
    h3_0 Cl n [] m (s3_0_1 a0 a1 a2 a3 a4 a5 (ys.map cL) a7 a8 a9) = h3_0 Cl n [] m (s3_0_0 a0 a1 a2 a3 a4 a5 false (ys.map cL) a7 a8 a9)
  | m + 1, _ => by
    rw [ph3_0_1, ph3_0_0]
    simp only [plain_lets, whole_eq, Nat.zero_add, Nat.le_refl, decide_true, cond_true]

theorem tell_go {n : Nat} (hM : M ≤ 1048576) (hn : M + 106 ≤ n) (ta : Bool) (zs : List Act) (hz : zs.length ≤ 80) (hzs : ∀ a ∈ zs, okV M a.l.v) (t : Bool) (xs : List Let) (hx : okM M xs) (ht : t = true → xs = []) (f g : Int) :
    tRes (R := V × List (List C)) (.val (.agg [.sl 5, .int .i64, .int .i64]) []) (some (if xs = [] then rA true [] f g else rO (xs.map cpL) f g, []))
      (fun v7 => (tagI (v7.fst.fst.fst) (fun b8 => (h3_0 (Ct n) n [] n (s3_0_0 ta (zs.map cA) t (xs.map cL) f g b8 (v7.fst.fst.snd) (v7.fst.snd.fst) (v7.fst.snd.snd.fst) 0))) (h3_0 (Ct n) n [] n (s3_0_1 ta (zs.map cA) t (xs.map cL) f g (v7.fst.fst.snd) (v7.fst.snd.fst) (v7.fst.snd.snd.fst) 0)))) = some (bR true) := by
  by_cases he : xs = []
  · subst he
    rw [if_pos rfl, res_rs]
    simp only [tagI]
    exact tell_loop hM hn ta zs hz hzs n 0 t true [] [] f g (by omega) (by omega) ⟨hx, hx, fun _ => rfl, rfl⟩
  · rw [if_neg he, res_ro]
    simp only [tagI]
    rw [tell01 _ _ _ _ _ _ _ _ _ _ _ _ n (by omega)]
    exact tell_loop hM hn ta zs hz hzs n 0 t false xs (xs.map cpL) f g (by omega) (by omega) ⟨hx, okM_cp hx, ht, Sim.cp rfl⟩

theorem okM_new (M n : Nat) (h : n ≤ 64) : okM M (newR n) := by
  refine ⟨by unfold newR; rw [List.length_replicate]; omega, fun x hx => ?_⟩
  unfold newR at hx
  rw [List.mem_replicate] at hx
  rw [hx.2]; exact okZ M
theorem cap_le (room : Int) : cap room ≤ 64 := by
  unfold cap
  split <;> split <;> omega

/- reparteelaw37.RingsTell -/
theorem tellN {n : Nat} (hM : M ≤ 1048576) (hn : M + 107 ≤ n) (t : Bool) (xs : List Let) (f g : Int) (raw : Bool) (room : Int) (ta : Bool) (zs : List Act) (ht : t = true → xs = []) (hx : ∀ x ∈ xs, okV M x.v) (hzs : ∀ a ∈ zs, okV M a.l.v) :
    Ct n 3 [rA t xs f g, .one (.d (.bool raw)), .one (.d (.int .i64 room)), .one (.d (.sl (.im ta) 6 (zs.map cA)))] [] = some (bR true) := by
  refine Ct_of (an := an3) (N := M + 106) rfl hn fun n hn => ?_
  have h5 := firstN (n := n) hM (by omega)
  have h6 := fewN (n := n) (by omega) ta t xs f g zs
  unfold rA at h6 ⊢
  rw [p3]
  simp only [h5, res_b, Bool.not_true, cond_false, h6]
  cases hf : fewB xs zs with
  | false => rfl
  | true =>
    have hf2 := hf
    unfold fewB at hf2
    simp only [Bool.and_eq_true, decide_eq_true_eq] at hf2
    obtain ⟨_, hx80, hz80⟩ := hf2
    simp only [Bool.not_true, cond_false]
    cases raw with
    | true =>
      simp only [Bool.not_true, cond_false]
      have h10 := copyRing (n := n) hM (by omega) t xs ⟨hx80, hx⟩ f g
      unfold rA at h10
      rw [h10]
      exact tell_go hM hn ta zs hz80 hzs t xs ⟨hx80, hx⟩ ht f g
    | false =>
      simp only [Bool.not_false, cond_true]
      have h7 := newRing (n := n) (by omega) room
      have h9 := newRing' (n := n) (by omega) room
      have ho := okM_new M (cap room) (cap_le room)
      have h8 := sameRing (n := n) hM (by omega) false false (newR (cap room)) (newR (cap room)) ho 0 0 0 0
      rw [Sim.same (show Sim (newR (cap room)) (newR (cap room)) from rfl)] at h8
      have h8 : Ct n 8 [rA false (newR (cap room)) 0 0, rA false (newR (cap room)) 0 0] [] = some (bR true) := h8
      have h10 := copyRing (n := n) hM (by omega) false (newR (cap room)) ho 0 0
      unfold rA at h8 h10
      simp only [h7, res_r, h9, h8, res_b, Bool.not_true, cond_false]
      rw [h10]
      exact tell_go hM hn ta zs hz80 hzs false (newR (cap room)) ho (by simp) 0 0
end Go.Proofs.Ytjndnconlakjkaa

set_option maxRecDepth 100000
set_option linter.unusedVariables false
set_option linter.unusedSimpArgs false
namespace Go.Proofs.Ytjndnconlakjkaa
open Go Go.Abs

theorem mod_inj {n f a b : Nat} (ha : a < n) (hb : b < n) (h : (f + a) % n = (f + b) % n) : a = b := by
  have h1 : (f + a) % n = ((f % n) + a) % n := by rw [Nat.mod_add_mod]
  have h2 : (f + b) % n = ((f % n) + b) % n := by rw [Nat.mod_add_mod]
  rw [h1, h2] at h
  have hf : f % n < n := Nat.mod_lt _ (by omega)
  generalize f % n = r at h hf
  by_cases c1 : r + a < n
  · rw [Nat.mod_eq_of_lt c1] at h
    by_cases c2 : r + b < n
    · rw [Nat.mod_eq_of_lt c2] at h; omega
    · rw [Nat.mod_eq_sub_mod (by omega), Nat.mod_eq_of_lt (by omega)] at h; omega
  · rw [Nat.mod_eq_sub_mod (by omega), Nat.mod_eq_of_lt (by omega)] at h
    by_cases c2 : r + b < n
    · rw [Nat.mod_eq_of_lt c2] at h; omega
    · rw [Nat.mod_eq_sub_mod (by omega), Nat.mod_eq_of_lt (by omega)] at h; omega

theorem getD_set_ne {xs : List Let} {i j : Nat} (h : i ≠ j) (y : Let) : (xs.set i y).getD j zL = xs.getD j zL := by
  rw [List.getD_eq_getElem?_getD, List.getD_eq_getElem?_getD, List.getElem?_set_ne h]
theorem getD_set_eq {xs : List Let} {i : Nat} (h : i < xs.length) (y : Let) : (xs.set i y).getD i zL = y := by
  rw [List.getD_eq_getElem?_getD, List.getElem?_set_self h]; rfl
theorem zat_set_ne {xs : List Let} {i j : Nat} (h : i ≠ j) (y : Let) : zat (xs.set i y) j = zat xs j := by
  unfold zat; rw [List.getElem?_set_ne h]
theorem zat_set_zL {xs : List Let} {i : Nat} (h : i < xs.length) : zat (xs.set i zL) i = true := by
  unfold zat; rw [List.getElem?_set_self h]; decide

theorem zrun_all {xs : List Let} {f : Nat} : ∀ {c k : Nat}, zrun xs f c k = true ↔ ∀ j, k ≤ j → j < k + c → zat xs ((f + j) % xs.length) = true
  | 0, k => by simp only [zrun, true_iff]; intro j h1 h2; omega
  | c + 1, k => by
    simp only [zrun, Bool.and_eq_true, zrun_all (c := c) (k := k + 1)]
    constructor
    · rintro ⟨h1, h2⟩ j h3 h4
      by_cases h : j = k
      · subst h; exact h1
      · exact h2 j (by omega) (by omega)
    · intro h
      exact ⟨h k (by omega) (by omega), fun j h1 h2 => h j (by omega) (by omega)⟩
theorem ringL_congr {xs ys : List Let} {f : Nat} (hl : xs.length = ys.length) : ∀ {c k : Nat}, (∀ j, k ≤ j → j < k + c → xs.getD ((f + j) % xs.length) zL = ys.getD ((f + j) % xs.length) zL) → ringL xs f c k = ringL ys f c k
  | 0, k, _ => rfl
  | c + 1, k, h => by
    unfold ringL
    rw [h k (by omega) (by omega), ringL_congr hl (c := c) (k := k + 1) (fun j h1 h2 => h j (by omega) (by omega)), hl]
theorem ringL_snoc (xs : List Let) (f : Nat) : ∀ c k, ringL xs f (c + 1) k = ringL xs f c k ++ [xs.getD ((f + (k + c)) % xs.length) zL]
  | 0, k => rfl
  | c + 1, k => by
    rw [ringL, ringL_snoc xs f c (k + 1), ringL]
    simp only [List.cons_append, show k + 1 + c = k + (c + 1) by omega]
theorem ringL_shift (xs : List Let) (f : Nat) : ∀ c k, ringL xs ((f + 1) % xs.length) c k = ringL xs f c (k + 1)
  | 0, k => rfl
  | c + 1, k => by
    unfold ringL
    rw [ringL_shift xs f c (k + 1), Nat.mod_add_mod, show f + 1 + k = f + (k + 1) by omega]
end Go.Proofs.Ytjndnconlakjkaa

set_option maxRecDepth 100000
set_option linter.unusedVariables false
set_option linter.unusedSimpArgs false
namespace Go.Proofs.Ytjndnconlakjkaa
open Go Go.Abs

/-- A ring and the queue that it is. -/
structure QI (xs : List Let) (f g : Nat) (q : List Let) : Prop where
  len : xs.length ≤ 64
  hf : f < xs.length ∨ f = 0
  hg : g ≤ xs.length
  run : zrun xs f (xs.length - g) g = true
  qe : q = ringL xs f g 0
theorem QI.may {xs : List Let} {f g : Nat} {q : List Let} (h : QI xs f g q) : mayB xs f g = true := by
  unfold mayB
  rw [dtrue (show mayC xs f g from ⟨h.len, by omega, by have := h.hg; omega, by omega, by have := h.hf; omega⟩)]
  exact h.run
theorem QI.list {xs : List Let} {f g : Nat} {q : List Let} (h : QI xs f g q) : listR xs f g = q := by
  unfold listR
  rw [if_pos h.may, h.qe]; rfl
theorem QI.qlen {xs : List Let} {f g : Nat} {q : List Let} (h : QI xs f g q) : q.length = g := by rw [h.qe, ringL_len]
theorem QI.put {xs : List Let} {f g : Nat} {q : List Let} (h : QI xs f g q) (hlt : g < xs.length) (l : Let) : QI (xs.set ((f + g) % xs.length) l) f (g + 1) (q ++ [l]) := by
  have hi : (f + g) % xs.length < xs.length := Nat.mod_lt _ (by omega)
  refine ⟨by rw [List.length_set]; exact h.len, by rw [List.length_set]; exact h.hf, by rw [List.length_set]; omega, ?_, ?_⟩
  · rw [List.length_set, zrun_all]
    intro j h1 h2
    rw [List.length_set, zat_set_ne (fun e => by have := mod_inj (by omega) (by omega) e; omega)]
    exact zrun_all.1 h.run j (by omega) (by omega)
  · rw [ringL_snoc, Nat.zero_add, List.length_set, getD_set_eq hi, h.qe]
    congr 1
    refine ringL_congr (by rw [List.length_set]) (fun j h1 h2 => ?_)
    rw [getD_set_ne (fun e => by have := mod_inj (by omega) (by omega) e; omega)]
theorem QI.take {xs : List Let} {f g : Nat} {q : List Let} (h : QI xs f g q) (hg : 0 < g) : ∃ r, q = xs.getD f zL :: r ∧ QI (xs.set f zL) ((f + 1) % xs.length) (g - 1) r := by
  have hlen : 0 < xs.length := by have := h.hg; omega
  have hf : f < xs.length := by have := h.hf; omega
  obtain ⟨g, rfl⟩ : ∃ k, g = k + 1 := ⟨g - 1, by omega⟩
  have hgl := h.hg
  refine ⟨ringL xs f g 1, ?_, ?_⟩
  · rw [h.qe, ringL, Nat.add_zero, Nat.mod_eq_of_lt hf]
  · have hl : (xs.set f zL).length = xs.length := List.length_set
    refine ⟨by rw [hl]; exact h.len, .inl (by rw [hl]; exact Nat.mod_lt _ hlen), by rw [hl]; omega, ?_, ?_⟩
    · rw [hl, zrun_all]
      intro j h1 h2
      rw [hl, Nat.mod_add_mod, show f + 1 + j = f + (j + 1) by omega]
      by_cases hj : j + 1 = xs.length
      · rw [hj, Nat.add_mod_right, Nat.mod_eq_of_lt hf]
        exact zat_set_zL hf
      · have hne : f ≠ (f + (j + 1)) % xs.length := by
          intro e
          have e2 : (f + 0) % xs.length = (f + (j + 1)) % xs.length := by rw [Nat.add_zero, Nat.mod_eq_of_lt hf]; exact e
          have := mod_inj (by omega) (by omega) e2
          omega
        rw [zat_set_ne hne]
        exact zrun_all.1 h.run (j + 1) (by omega) (by omega)
    · have e1 : ringL (xs.set f zL) ((f + 1) % xs.length) g 0 = ringL (xs.set f zL) ((f + 1) % (xs.set f zL).length) g 0 := by rw [hl]
      show ringL xs f g 1 = ringL (xs.set f zL) ((f + 1) % xs.length) g 0
      rw [e1, ringL_shift]
      refine ringL_congr hl.symm (fun j h1 h2 => ?_)
      rw [getD_set_ne]
      intro e
      have e2 : (f + 0) % xs.length = (f + j) % xs.length := by rw [Nat.add_zero, Nat.mod_eq_of_lt hf]; exact e
      have := mod_inj (by omega) (by omega) e2
      omega
theorem QI.new (n : Nat) (h : n ≤ 64) : QI (newR n) 0 0 [] := by
  refine ⟨by unfold newR; rw [List.length_replicate]; exact h, .inr rfl, Nat.zero_le _, ?_, rfl⟩
  rw [zrun_all]
  intro j h1 h2
  have hn : (newR n).length = n := by unfold newR; exact List.length_replicate
  rw [hn] at h2 ⊢
  unfold zat newR
  rw [List.getElem?_replicate, if_pos (Nat.mod_lt _ (by omega))]
  decide
end Go.Proofs.Ytjndnconlakjkaa

set_option maxRecDepth 100000
set_option linter.unusedVariables false
set_option linter.unusedSimpArgs false
namespace Go.Proofs.Ytjndnconlakjkaa
open Go Go.Abs
variable {M : Nat}

theorem sameM_refl (xs : List Let) : sameM xs xs = true := Sim.same rfl
theorem t1 : Int.toNat 1 = 1 := rfl
theorem tl1 {x : Let} {r : List Let} : List.take (((x :: r).map cL).length - 1) (List.drop 1 ((x :: r).map cL)) = r.map cL := by
  simp [List.take_of_length_le]
theorem hd1 {x : Let} {r : List Let} : List.take (1 - 0) (List.drop 0 ((x :: r).map cL)) = [x].map cL := by simp

/-- What holds at the loop's head. -/
structure QJ (M : Nat) (t : Bool) (xs : List Let) (f g : Nat) (q : List Let) : Prop where
  i : QI xs f g q
  ok : okM M xs
  ht : t = true → xs = []

theorem QJ.checks {n : Nat} {t : Bool} {xs q : List Let} {f g : Nat} (hM : M ≤ 1048576) (hn : M + 105 ≤ n) (h : QJ M t xs f g q) (tq : Bool) :
    Ct n 11 [rA t xs f g] [] = some (bR true) ∧ Ct n 14 [rA t xs f g] [] = some (mA q.isEmpty q, []) ∧ Ct n 13 [mA q.isEmpty q, mA tq q] [] = some (bR true) := by
  refine ⟨?_, ?_, ?_⟩
  · rw [mayR hM (by omega) t xs h.ok f g, h.i.may]
  · rw [listN hM (by omega) t xs h.ok f g, h.i.list]
  · rw [sameMail hM (by omega) q.isEmpty tq q q (by rw [← h.i.list]; exact okM_list h.ok f g), sameM_refl]
theorem ne_self (a : Int) : (a != a) = false := by simp

theorem queue_loop {n : Nat} (hM : M ≤ 1048576) (hn : M + 106 ≤ n) (ta : Bool) (zs : List Act) (hz : zs.length ≤ 80) (hzs : ∀ a ∈ zs, okV M a.l.v) (N : Nat) : ∀ (m j : Nat) (t tq : Bool) (xs q : List Let) (f g : Nat), j ≤ zs.length → zs.length - j < m → xs.length = N → QJ M t xs f g q →
    h4_0 (Ct n) n [] m (s4_0_0 ta (zs.map cA) (N : Int) t (xs.map cL) (f : Int) (g : Int) tq (q.map cL) (j : Int)) = some (bR true) ∧
    h4_0 (Ct n) n [] m (s4_0_1 ta (zs.map cA) (N : Int) t (xs.map cL) (f : Int) (g : Int) (q.map cL) (j : Int)) = some (bR true)
  | 0, j, _, _, _, _, _, _, _, h, _, _ => by omega
  | m + 1, j, t, tq, xs, q, f, g, hj, hm, hN, I => by
    have hql := I.i.qlen
    have hgl := I.i.hg
    have hl64 := I.i.len
    rw [ph4_0_0, ph4_0_1]
    by_cases hlt : j < zs.length
    · have hgt : (zs.map cA)[j]? = some (cA zs[j]) := by simp [hlt]
      have d1 : (1 ≤ (List.drop 0 (cA zs[j])).length) = True := by simp [cA]
      have d5 : (5 ≤ (List.drop 1 (cA zs[j])).length) = True := by simp [cA, cL, cV]
      have hok := mem_get hzs hlt
      have hlz : decide ((j : Int) < natI (zs.map cA).length) = true := by rw [natI_eq, List.length_map]; exact lt_len hlt
      simp only [hlz, asI_nat, qOpt_some, hgt, d1, decide_true, cond_true, tRow_eq _ (dec_tk _)]
      cases htk : zs[j].tk with
      | true =>
        simp only [cond_true]
        have h16 := takeN (n := n) hM (by omega) t xs I.ht I.ok f g
        unfold takeR at h16
        by_cases h0 : g = 0
        · subst h0
          have hq0 : q = [] := List.eq_nil_of_length_eq_zero hql
          subst hq0
          rw [if_neg (by simp)] at h16
          have ih := queue_loop hM hn ta zs hz hzs N m (j + 1) t tq xs [] f 0 (by omega) (by omega) hN I
          obtain ⟨c1, c2, c3⟩ := QJ.checks hM (by omega : M + 105 ≤ n) I tq
          obtain ⟨_, _, c4⟩ := QJ.checks hM (by omega : M + 105 ≤ n) I false
          have r16 := fun K => res_take (R := V × List (List C)) t xs (f : Int) ((0 : Nat) : Int) zL false K
          have e1 : (!false == decide (natI (([] : List Let).map cL).length > 0)) = false := rfl
          have e2 : (((0 : Nat) : Int) != natI (([] : List Let).map cL).length) = false := rfl
          unfold rA at h16 r16 c1 c2
          unfold mA at c2 c3 c4
          have rm := fun K => res_m (R := V × List (List C)) ([] : List Let).isEmpty [] K
          unfold mA at rm
          simp only [h16, r16, e1, cond_false, c1, res_b, Bool.not_true, e2, c2, rm, c3, c4, Nat.zero_add, Nat.le_refl, decide_true, cond_true, whole_eq, plain_lets, next_i (j := j) (by omega), ih.1, ih.2, and_self]
        · obtain ⟨r, hqe, I2⟩ := I.i.take (by omega)
          have hf : f < xs.length := by have := I.i.hf; omega
          rw [if_pos ⟨I.i.may, by omega⟩] at h16
          have h16 : Ct n 16 [rA t xs f g] [] = some (.tup [rA t (xs.set f zL) (((f + 1) % xs.length : Nat) : Int) ((g : Int) - 1), lA (xs.getD f zL), .one (.d (.bool true))], []) := h16
          have J : QJ M t (xs.set f zL) ((f + 1) % xs.length) (g - 1) r := ⟨I2, okM_set I.ok f (okZ M), fun ht => by rw [I.ht ht]; rfl⟩
          have ih := queue_loop hM hn ta zs hz hzs N m (j + 1) t tq (xs.set f zL) r ((f + 1) % xs.length) (g - 1) (by omega) (by omega) (by rw [List.length_set]; exact hN) J
          have ih' := queue_loop hM hn ta zs hz hzs N m (j + 1) t false (xs.set f zL) r ((f + 1) % xs.length) (g - 1) (by omega) (by omega) (by rw [List.length_set]; exact hN) J
          obtain ⟨c1, c2, c3⟩ := QJ.checks hM (by omega : M + 105 ≤ n) J tq
          obtain ⟨_, _, c4⟩ := QJ.checks hM (by omega : M + 105 ≤ n) J false
          have hg1 : (g : Int) - 1 = ((g - 1 : Nat) : Int) := by omega
          rw [hg1] at h16
          have hrl := J.i.qlen
          have hoX : okV M (xs.getD f zL).v := by rw [getD_lt hf]; exact mem_get I.ok.2 hf
          generalize hX : xs.getD f zL = X at *
          have s1 : ∀ tt : Bool, Ct n 13 [mA false [X], mA tt [X]] [] = some (bR true) := fun tt => by
            rw [sameMail hM (by omega) false tt [X] [X] ⟨by simp, fun x hx => by rw [List.mem_singleton] at hx; subst hx; exact hoX⟩, sameM_refl]
          have s1 : ∀ tt : Bool, Ct n 13 [.one (.d (.sl (.im false) 5 [[.str X.b, .int .i64 X.v.k, .int .i64 X.v.n, .str X.v.s, .sl (.im X.v.t) 1 (X.v.l.map encI)]])), .one (.d (.sl (.im tt) 5 ([X].map cL)))] [] = some (bR true) := s1
          subst hqe
          have r16 := fun K => res_take (R := V × List (List C)) t (xs.set f zL) (((f + 1) % xs.length : Nat) : Int) ((g - 1 : Nat) : Int) X true K
          have e1 : (!true == decide (natI ((X :: r).map cL).length > 0)) = false := by
            rw [dtrue (by rw [natI_eq, List.length_map, List.length_cons]; omega)]; rfl
          have e2 : (((g - 1 : Nat) : Int) != natI (r.map cL).length) = false := by
            rw [natI_eq, List.length_map, hrl]; exact ne_self _
          have e3 : (1 ≤ ((X :: r).map cL).length) = True := by simp
          have e4 : (0 + 0 + (1 - 0) ≤ ((X :: r).map cL).length) = True := by simp
          have e5 : (0 + 1 + (((X :: r).map cL).length - 1) ≤ ((X :: r).map cL).length) = True := by simp; omega
          unfold rA at h16 r16 c1 c2
          unfold mA at c2 c3 c4
          have rm := fun K => res_m (R := V × List (List C)) r.isEmpty r K
          unfold mA at rm
          simp only [h16, r16, e1, cond_false, cond_true, t1, e3, e4, e5, hd1, tl1, decide_true, s1, res_b, Bool.not_true, Bool.and_self, Nat.le_refl, c1, e2, c2, rm, c3, c4, Nat.zero_add, plain_lets, next_i (j := j) (by omega), ih.1, ih'.1, ih.2, and_self]
      | false =>
        simp only [cond_false, d5, decide_true, cond_true, take5, tRow_eq _ (dec_L _)]
        have h18 := putN (n := n) hM (by omega) t xs I.ht I.ok f g zs[j].l hok
        unfold putR at h18
        by_cases hfull : g = xs.length
        · rw [if_neg (by omega)] at h18
          have ih := queue_loop hM hn ta zs hz hzs N m (j + 1) t tq xs q f g (by omega) (by omega) hN I
          obtain ⟨c1, c2, c3⟩ := QJ.checks hM (by omega : M + 105 ≤ n) I tq
          obtain ⟨_, _, c4⟩ := QJ.checks hM (by omega : M + 105 ≤ n) I false
          have r18 := fun K => res_put (R := V × List (List C)) t xs (f : Int) (g : Int) false K
          have e1 : (!false == decide (natI (q.map cL).length < (N : Int))) = false := by
            rw [dfalse (by rw [natI_eq, List.length_map]; omega)]; rfl
          have e2 : ((g : Int) != natI (q.map cL).length) = false := by
            rw [natI_eq, List.length_map, hql]; exact ne_self _
          unfold lA at h18
          unfold rA at h18 r18 c1 c2
          unfold mA at c2 c3 c4
          have rm := fun K => res_m (R := V × List (List C)) q.isEmpty q K
          unfold mA at rm
          simp only [h18, r18, e1, cond_false, c1, res_b, Bool.not_true, e2, c2, rm, c3, c4, Nat.zero_add, Nat.le_refl, decide_true, cond_true, whole_eq, plain_lets, next_i (j := j) (by omega), ih.1, ih.2, and_self]
        · rw [if_pos ⟨I.i.may, by omega⟩] at h18
          have h18 : Ct n 18 [rA t xs f g, lA zs[j].l] [] = some (.tup [rA t (xs.set ((f + g) % xs.length) zs[j].l) f ((g : Int) + 1), .one (.d (.bool true))], []) := h18
          have J : QJ M t (xs.set ((f + g) % xs.length) zs[j].l) f (g + 1) (q ++ [zs[j].l]) := ⟨I.i.put (by omega) zs[j].l, okM_set I.ok _ hok, fun ht => by rw [I.ht ht]; rfl⟩
          have ih := queue_loop hM hn ta zs hz hzs N m (j + 1) t false (xs.set ((f + g) % xs.length) zs[j].l) (q ++ [zs[j].l]) f (g + 1) (by omega) (by omega) (by rw [List.length_set]; exact hN) J
          obtain ⟨c1, c2, c3⟩ := QJ.checks hM (by omega : M + 105 ≤ n) J false
          have hg1 : (g : Int) + 1 = ((g + 1 : Nat) : Int) := by omega
          rw [hg1] at h18
          have hrl := J.i.qlen
          have r18 := fun K => res_put (R := V × List (List C)) t (xs.set ((f + g) % xs.length) zs[j].l) (f : Int) ((g + 1 : Nat) : Int) true K
          have e1 : (!true == decide (natI (q.map cL).length < (N : Int))) = false := by
            rw [dtrue (by rw [natI_eq, List.length_map]; omega)]; rfl
          have e2 : (((g + 1 : Nat) : Int) != natI ((q ++ [zs[j].l]).map cL).length) = false := by
            rw [natI_eq, List.length_map, hrl]; exact ne_self _
          have b1 : decide ((q.map cL).length * 72 ≤ 140737488355328) = true := dtrue (by rw [List.length_map]; omega)
          have b2 : decide (((q.map cL).length + 1) * 72 ≤ 140737488355328) = true := dtrue (by rw [List.length_map]; omega)
          have hrow : [D.str zs[j].l.b, D.int .i64 zs[j].l.v.k, D.int .i64 zs[j].l.v.n, D.str zs[j].l.v.s, D.sl (.im zs[j].l.v.t) 1 (zs[j].l.v.l.map encI)] = cL zs[j].l := rfl
          have rm := fun K => res_m (R := V × List (List C)) (q ++ [zs[j].l]).isEmpty (q ++ [zs[j].l]) K
          unfold lA at h18
          unfold rA at h18 r18 c1 c2
          unfold mA at c2 c3 rm
          cases q with
          | nil =>
            have he : (([] : List Let).map cL).isEmpty = true := rfl
            have e2 : (((g + 1 : Nat) : Int) != natI 1) = false := by
              have : g = 0 := by simpa using hql.symm
              subst this; rfl
            simp only [List.nil_append] at c2 c3 rm ih
            have hone : ([zs[j].l].map cL) = [cL zs[j].l] := rfl
            rw [hone] at c2 c3 rm ih
            simp only [h18, r18, e1, cond_false, cond_true, b1, he, Nat.zero_add, Nat.le_refl, decide_true, whole_eq, plain_lets, hrow, c1, res_b, Bool.not_true, e2, c2, rm, c3, next_i (j := j) (by omega), ih.2, and_self]
          | cons a q =>
            have he : ((a :: q).map cL).isEmpty = false := rfl
            simp only [h18, r18, e1, cond_false, cond_true, b1, b2, he, Nat.zero_add, Nat.le_refl, decide_true, whole_eq, plain_lets, set0, hrow, snoc_map, c1, res_b, Bool.not_true, e2, c2, rm, c3, next_i (j := j) (by omega), ih.2, and_self]
    · have hj' : j = zs.length := by omega
      have hlz : decide ((j : Int) < natI (zs.map cA).length) = false := by rw [natI_eq, List.length_map]; exact nlt_len hlt
      simp only [hlz, cond_false]
      exact ⟨rfl, rfl⟩
end Go.Proofs.Ytjndnconlakjkaa

set_option maxRecDepth 100000
set_option linter.unusedVariables false
set_option linter.unusedSimpArgs false
namespace Go.Proofs.Ytjndnconlakjkaa
open Go Go.Abs

mutual
def szD : D → Nat
  | .sl _ _ rows => szRs rows
  | _ => 1
def szR : List D → Nat
  | [] => 0
  | x :: t => szD x + szR t
def szRs : List (List D) → Nat
  | [] => 0
  | r :: t => szR r + szRs t
end
theorem szR_app : ∀ (a b : List D), szR (a ++ b) = szR a + szR b
  | [], b => by simp [szR]
  | x :: t, b => by simp only [List.cons_append, szR, szR_app t b]; omega
theorem szRs_mem : ∀ {rows : List (List D)} {r : List D}, r ∈ rows → szR r ≤ szRs rows
  | [], r, h => by cases h
  | x :: t, r, h => by
    simp only [szRs]
    rcases List.mem_cons.1 h with h | h
    · subst h; omega
    · have := szRs_mem h; omega
theorem szRs_ints : ∀ l : List Int, szRs (l.map encI) = l.length
  | [] => rfl
  | a :: t => by simp only [List.map_cons, szRs, szRs_ints t, encI, szR, szD, List.length_cons]; omega

section
variable {H : Type} {P : Program}
theorem bulk_fields {n : Nat} (ih : ∀ (t : TypeId) (d : DataW H) l, dataOf P n t d = some l → szR l ≤ Rows.uptoBulk d) :
    ∀ (fl : List Field) (ds : List (DataW H)) {l : List D}, dataFs P n fl ds = some l → szR l ≤ Rows.uptoBulkAll ds
  | [], [], l, h => by simp [dataFs] at h; subst h; exact Nat.zero_le _
  | [], _ :: _, l, h => by simp [dataFs] at h
  | _ :: _, [], l, h => by simp [dataFs] at h
  | f :: fl, d :: ds, l, h => by
    simp only [dataFs] at h
    obtain ⟨l1, k1, k2⟩ := bind_some h
    obtain ⟨l2, k3, rfl⟩ := map_some' k2
    rw [szR_app]
    have := ih _ _ _ k1
    have := bulk_fields ih fl ds k3
    simp only [Rows.uptoBulkAll]
    omega
theorem bulk_rows {f : DataW H → Option (List D)} (ih : ∀ d l, f d = some l → szR l ≤ Rows.uptoBulk d) : ∀ (ds : List (DataW H)) {rows : List (List D)}, ds.mapM f = some rows → szRs rows ≤ Rows.uptoBulkAll ds
  | [], rows, h => by
    have : rows = [] := by simpa using h.symm
    subst this; exact Nat.zero_le _
  | d :: ds, rows, h => by
    rw [List.mapM_cons] at h
    obtain ⟨a, h1, h2⟩ := bind_some h
    obtain ⟨b, h3, h4⟩ := bind_some h2
    cases h4
    have := ih _ _ h1
    have := bulk_rows ih ds h3
    simp only [szRs, Rows.uptoBulkAll]
    omega
theorem bulk_data : ∀ (n : Nat) (t : TypeId) (d : DataW H) (l : List D), dataOf P n t d = some l → szR l ≤ Rows.uptoBulk d := by
  intro n
  induction n with
  | zero => intro t d l h; simp [dataOf] at h
  | succ n ih =>
    intro t d l h
    unfold dataOf at h
    split at h
    · cases h; simp [szR, szD, Rows.uptoBulk]
    · cases h; simp [szR, szD, Rows.uptoBulk]
    · cases h
      simp only [szR, szD, Rows.uptoBulk]; omega
    · cases h; simp [szR, szD, szRs, Rows.uptoBulk]
    · rename_i e elems sp _ _
      obtain ⟨rows, h1, rfl⟩ := map_some' h
      have := bulk_rows (fun d l h => ih _ d l h) _ h1
      simp only [szR, szD, Rows.uptoBulk]
      omega
    · rename_i fs ds _ _
      have := bulk_fields (fun t d l h => ih t d l h) _ _ h
      simp only [Rows.uptoBulk]
      omega
    · cases h
theorem bulk_all {n : Nat} : ∀ {ts : List TypeId} {ds : List (DataW H)} {rs : List (List D)}, dataAll P n ts ds = some rs → ∀ r ∈ rs, szR r ≤ Rows.uptoBulkAll ds
  | [], [], rs, h, r, hr => by cases h; cases hr
  | t :: ts, d :: ds, rs, h, r, hr => by
    simp only [dataAll] at h
    obtain ⟨a, h1, h2⟩ := bind_some h
    obtain ⟨b, h3, rfl⟩ := map_some' h2
    simp only [Rows.uptoBulkAll]
    rcases List.mem_cons.1 hr with hr | hr
    · subst hr; have := bulk_data _ _ _ _ h1; omega
    · have := bulk_all h3 r hr; omega
  | [], _ :: _, rs, h, r, hr => by cases h
  | _ :: _, [], rs, h, r, hr => by cases h
end

theorem rows_map {α : Type} {enc : α → List D} {Q : α → Prop} : ∀ {rows : List (List D)}, (∀ r ∈ rows, ∃ x, r = enc x ∧ Q x) → ∃ xs : List α, rows = xs.map enc ∧ ∀ x ∈ xs, Q x
  | [], _ => ⟨[], rfl, fun x h => by cases h⟩
  | r :: t, h => by
    obtain ⟨x, rfl, hq⟩ := h r (List.mem_cons_self ..)
    obtain ⟨xs, rfl, hqs⟩ := rows_map (rows := t) (fun r hr => h r (List.mem_cons_of_mem _ hr))
    exact ⟨x :: xs, rfl, fun y hy => by rcases List.mem_cons.1 hy with h | h; subst h; exact hq; exact hqs y h⟩

def tsL : List TS := [.str, .int .i64, .int .i64, .str, .sl 1 [.int .i64]]
theorem ok_int {x : D} {k : IntKind} (h : okD (.int k) x) : ∃ n, x = .int k n := by
  cases x <;> simp only [okD] at h
  obtain ⟨rfl, _⟩ := h; exact ⟨_, rfl⟩
theorem ok_str {x : D} (h : okD .str x) : ∃ s, x = .str s := by
  cases x <;> simp only [okD] at h
  exact ⟨_, rfl⟩
theorem ok_bool {x : D} (h : okD .bool x) : ∃ s, x = .bool s := by
  cases x <;> simp only [okD] at h
  exact ⟨_, rfl⟩
theorem ok_sl {x : D} {sz : Nat} {ts : List TS} (h : okD (.sl sz ts) x) : ∃ b rows, x = .sl (.im b) sz rows ∧ (b = true → rows = []) ∧ ∀ r ∈ rows, okR ts r := by
  cases x with
  | sl t sz' rows =>
    cases t with
    | im b => simp only [okD] at h; obtain ⟨rfl, h1, h2⟩ := h; exact ⟨_, _, rfl, h1, h2⟩
    | own => simp only [okD] at h
  | _ => simp only [okD] at h
theorem okR_cons {t : TS} {ts : List TS} {r : List D} (h : okR (t :: ts) r) : ∃ x r', r = x :: r' ∧ okD t x ∧ okR ts r' := by
  cases r with
  | nil => simp only [okR] at h
  | cons x r' => simp only [okR] at h; exact ⟨x, r', rfl, h.1, h.2⟩
theorem okR_nil {r : List D} (h : okR [] r) : r = [] := by
  cases r with
  | nil => rfl
  | cons => simp only [okR] at h
theorem ok_ints {rows : List (List D)} (h : ∀ r ∈ rows, okR [.int .i64] r) : ∃ l : List Int, rows = l.map encI := by
  obtain ⟨l, h1, _⟩ := rows_map (enc := encI) (Q := fun _ => True) (fun r hr => by
    obtain ⟨x, r', rfl, h1, h2⟩ := okR_cons (h r hr)
    obtain ⟨n, rfl⟩ := ok_int h1
    rw [okR_nil h2]
    exact ⟨n, rfl, trivial⟩)
  exact ⟨l, h1⟩
theorem ok_let {r : List D} (h : okR tsL r) : ∃ x : Let, r = cL x ∧ (x.v.t = true → x.v.l = []) := by
  unfold tsL at h
  obtain ⟨a, r1, rfl, h1, h⟩ := okR_cons h
  obtain ⟨b, r2, rfl, h2, h⟩ := okR_cons h
  obtain ⟨c, r3, rfl, h3, h⟩ := okR_cons h
  obtain ⟨d, r4, rfl, h4, h⟩ := okR_cons h
  obtain ⟨e, r5, rfl, h5, h⟩ := okR_cons h
  rw [okR_nil h]
  obtain ⟨a, rfl⟩ := ok_str h1
  obtain ⟨b, rfl⟩ := ok_int h2
  obtain ⟨c, rfl⟩ := ok_int h3
  obtain ⟨d, rfl⟩ := ok_str h4
  obtain ⟨t, rows, rfl, h6, h7⟩ := ok_sl h5
  obtain ⟨l, rfl⟩ := ok_ints h7
  exact ⟨⟨a, ⟨b, c, d, t, l⟩⟩, rfl, fun ht => by simpa using h6 ht⟩
theorem ok_act {r : List D} (h0 : okR (.bool :: tsL) r) : ∃ x : Act, r = cA x ∧ (x.l.v.t = true → x.l.v.l = []) := by
  obtain ⟨a, r1, rfl, h1, h2⟩ := okR_cons h0
  obtain ⟨a, rfl⟩ := ok_bool h1
  obtain ⟨x, rfl, hx⟩ := ok_let h2
  exact ⟨⟨a, x⟩, rfl, hx⟩
theorem sz_let (x : Let) : x.v.l.length ≤ szR (cL x) := by
  simp only [cL, cV, szR, szD, szRs_ints]; omega
theorem sz_act (x : Act) : x.l.v.l.length ≤ szR (cA x) := by
  simp only [cA, szR, szD]
  have := sz_let x.l
  omega
end Go.Proofs.Ytjndnconlakjkaa

set_option maxRecDepth 100000
set_option linter.unusedVariables false
set_option linter.unusedSimpArgs false
namespace Go.Proofs.Ytjndnconlakjkaa
open Go Go.Abs

def lowI (room : Int) : Int := IntKind.i64.wrap ((IntKind.u64.wrap room).tmod 20)
theorem wrap20 : IntKind.u64.wrap 20 = 20 := by decide
theorem lowI_range (room : Int) : 0 ≤ lowI room ∧ lowI room < 20 := by
  have h0 : 0 ≤ IntKind.u64.wrap room := by
    show 0 ≤ room % (2 ^ 64 : Int)
    exact Int.emod_nonneg _ (by decide)
  have h1 : 0 ≤ (IntKind.u64.wrap room).tmod 20 := Int.tmod_nonneg _ h0
  have h2 : (IntKind.u64.wrap room).tmod 20 < 20 := Int.tmod_lt_of_pos _ (by decide)
  unfold lowI
  rw [wrap_i64 (by omega) (by omega)]
  exact ⟨h1, h2⟩
theorem lowN {n : Nat} (hn : 1 ≤ n) (room : Int) : Ct n 20 [.one (.d (.int .i64 room)), .one (.d (.int .i64 20))] [] = some (.one (.d (.int .i64 (lowI room))), []) := by
  refine Ct_of (an := an20) (N := 0) rfl hn fun n hn => ?_
  rw [p20]
  have e1 : decide ((20 : Int) < 1) = false := rfl
  have e2 : decide ((20 : Int) = 0) = false := rfl
  simp only [e1, wrap20, e2, Bool.not_false, cond_true, cond_false, lowI]

theorem few_all {zs : List Act} (h : fewB [] zs = true) : zs.length ≤ 80 ∧ ∀ a ∈ zs, a.l.v.l.length ≤ 1048576 := by
  unfold fewB at h
  simp only [Bool.and_eq_true, decide_eq_true_eq] at h
  obtain ⟨h1, _, h2⟩ := h
  refine ⟨h2, fun a ha => ?_⟩
  rw [List.take_of_length_le (by omega), List.all_eq_true] at h1
  have := of_decide_eq_true (h1 a ha)
  unfold smallA at this
  omega

theorem res_i1 {R : Type} (i : Int) (K : Int × Unit → Option R) : tRes (.val (.one (.int .i64)) []) (some (.one (.d (.int .i64 i)), [])) K = K (i, ()) := rfl

/- reparteelaw37.RingsQueue -/
theorem queueN (room : Int) (ta : Bool) (zs : List Act) (hzs : ∀ a ∈ zs, a.l.v.t = true → a.l.v.l = []) :
    ∀ {n : Nat}, 1048576 + 107 ≤ n → Ct n 4 [.one (.d (.int .i64 room)), .one (.d (.sl (.im ta) 6 (zs.map cA)))] [] = some (bR true) := by
  intro n hn
  refine Ct_of (an := an4) (N := 1048576 + 106) rfl hn fun n hn => ?_
  have h5 := firstN (M := 1048576) (n := n) (Nat.le_refl _) (by omega)
  have h6 := fewN (n := n) (by omega) ta true [] 0 0 zs
  unfold rA at h6
  rw [p4]
  have h6 : Ct n 6 [.agg [.d (.sl (.im true) 5 []), .d (.int .i64 0), .d (.int .i64 0)], .one (.d (.sl (.im ta) 6 (zs.map cA)))] [] = some (bR (fewB [] zs)) := h6
  simp only [h5, res_b, Bool.not_true, cond_false, h6]
  cases hf : fewB [] zs with
  | false => rfl
  | true =>
    obtain ⟨hz80, hsz⟩ := few_all hf
    simp only [Bool.not_true, cond_false]
    have h20 := lowN (n := n) (by omega) room
    obtain ⟨l0, l1⟩ := lowI_range room
    obtain ⟨N, hN⟩ : ∃ N : Nat, lowI room = (N : Int) := ⟨(lowI room).toNat, by omega⟩
    rw [hN] at h20 l1
    have hc : cap (N : Int) = N := by unfold cap; split <;> split <;> omega
    have h7 := newRing (n := n) (by omega) (N : Int)
    rw [hc] at h7
    unfold rA at h7
    simp only [h20, res_i1, h7, res_r]
    have J : QJ 1048576 false (newR N) 0 0 [] := ⟨QI.new N (by omega), okM_new _ N (by omega), by simp⟩
    exact (queue_loop (M := 1048576) (Nat.le_refl _) (by omega) ta zs hz80 (fun a ha => ⟨hzs a ha, hsz a ha⟩) N n 0 false true (newR N) [] 0 0 (by omega) (by omega) (by unfold newR; rw [List.length_replicate]) J).1
end Go.Proofs.Ytjndnconlakjkaa

set_option maxRecDepth 100000
set_option linter.unusedVariables false
namespace Go.Proofs.Ytjndnconlakjkaa.ringsQueue
open Go Go.Abs Go.ChangeShapes Go.WideShapes Go.ChangeAt

theorem own : ownKnob Try.prog.godebug = none := by kernel_rfl
theorem params : Try.f4.params.toList = [3, 25] := by kernel_rfl
theorem types : tsAll Try.prog 20 [3, 25] = some [[.int .i64], [.sl 6 (.bool :: tsL)]] := by kernel_rfl
theorem arg3 (r : List D) : argV Try.prog 3 r = .one (.d (r.headD .dead)) := by kernel_rfl
theorem arg4 (r : List D) : argV Try.prog 25 r = .one (.d (r.headD .dead)) := by kernel_rfl

theorem eqn (rs : List (List D)) (ho : okRs [[.int .i64], [.sl 6 (.bool :: tsL)]] rs) :
    ∃ N out, evN tab (fun _ _ _ => none) N 4 (argVs Try.prog [3, 25] rs) [] = some (.one (.d (.bool true)), out) := by
  match rs, ho with
  | [r3, r4], ⟨h3, h4, _⟩ =>
    obtain ⟨x3, q5, rfl, k5, g5⟩ := okR_cons h3
    obtain rfl := okR_nil g5
    obtain ⟨room, rfl⟩ := ok_int k5
    obtain ⟨x4, q6, rfl, k6, g6⟩ := okR_cons h4
    obtain rfl := okR_nil g6
    obtain ⟨ta, rows', rfl, h9, h10⟩ := ok_sl k6
    obtain ⟨zs, rfl, hzs⟩ := rows_map (enc := cA) (Q := fun x => x.l.v.t = true → x.l.v.l = []) (fun r hr => by
      obtain ⟨x, rfl, hx⟩ := ok_act (h10 r hr)
      exact ⟨x, rfl, hx⟩)
    refine ⟨1048576 + 107, [], ?_⟩
    have := queueN room ta zs hzs (n := 1048576 + 107) (Nat.le_refl _)
    simp only [argVs, arg3, arg4]
    exact this

theorem trodAll_len {H : Type} {enc : TypeId × Value → H} {P : Program} {W : World} {b : Nat} {sp : Nat → Bool} {hd : Bool} : ∀ {ts : List TypeId} {vs : List Value} {ds : List (DataW H)} {ps : List MemPlace}, DataW.TrodAll enc P W b sp hd ts vs ds ps → ds.length = ts.length
  | [], vs, ds, ps, h => by cases vs <;> cases ds <;> simp_all [DataW.TrodAll]
  | t :: ts, vs, ds, ps, h => by
    cases vs with
    | nil => simp [DataW.TrodAll] at h
    | cons v vs =>
      cases ds with
      | nil => simp [DataW.TrodAll] at h
      | cons d ds => obtain ⟨p, q, _, h2, _⟩ := h; simp [trodAll_len h2]

theorem contract (H : Type) (enc : TypeId × Value → H) (W : World) (base : Nat) (args : Array Value) (ds gs : List (DataW H)) (before : List MemPlace)
    (hval : ∀ (j : Nat) t v, Try.f4.params[j]? = some t → args[j]? = some v → Value.okWide Try.prog W .any base t v)
    (hW : DataW.Whole enc Try.prog Try.f4.params.toList Rows.ringsQueueSpec.vars false W args.toList ds gs before) :
    Calls Try.prog 4 args W fun e W' => ∃ v, e = .returned v ∧ Rows.ringsQueueSpec.post enc Try.prog Try.f4 false true false false W args v W' := by
  have hs : ∀ t ∈ Try.f4.params.toList, simpleT Try.prog 20 t = true := List.all_eq_true.1 (by kernel_rfl)
  have hW0 := hW
  obtain ⟨p, q, hA, hV, _⟩ := hW
  have hO : ∀ N, OSound Try.prog nm (evN tab (fun _ _ _ => none) N) := fun N => @evN_sound nm Try.prog tab (fun _ _ _ => none) tabOk (by intro f vs bx r out fid _ h; cases h) N
  refine (law_calls' (b := true) hO (f0 := 4) rfl Try.func4 (by kernel_rfl) rfl hA hs (by rw [params]; exact types) (fun j t v h1 h2 => hval j t v (by simpa using h1) h2) (fun rs h1 h2 => by rw [params]; exact eqn rs h2)).mono fun e W' ⟨he, hl⟩ => ⟨_, he, ?_⟩
  refine law_post hW0 rfl hs (tb := Try.f4.resultTypes.getD 0 0) (by kernel_rfl) (by kernel_rfl) ?_ ?_ ?_ hl
  all_goals
    have hlen : ds.length = 2 := (trodAll_len hA).trans (by kernel_rfl)
    obtain ⟨rfl, _⟩ := trodVars_none hV
    match ds, hlen with
    | [d1, d2], _ => rfl

theorem lifted (os : Os) (started : os.Started) (H : Type) (enc : TypeId × Value → H) :
    ReturnsInHanded {} Try.checked os 4 .any (Rows.ringsQueueSpec.pre6 enc Try.prog Try.f4 Rows.ringsQueueRow.domain false) (Rows.ringsQueueSpec.post enc Try.prog Try.f4 false true false false) := by
  refine returnsInHanded_of_change (C := Try.checked) own started (by kernel_rfl) Try.func4
    (ChangeSpec.witness6 (enc := enc) (C := Try.checked) false ⟨#[], #[.int .i64 0, .slice none 0 0], []⟩ 8 (by kernel_rfl) (by kernel_rfl) (by kernel_rfl) (by kernel_rfl)) ?_
  intro W base args ds gs before hval hW _ _
  exact contract H enc W base args ds gs before hval hW

theorem proved : Rows.RingsQueueSaid :=
  OpenClaim.holds_of_wide 4 Try.f4 rfl rfl rfl rfl rfl rfl rfl ⟨rfl, rfl, rfl, rfl, rfl⟩ rfl rfl rfl rfl rfl (by kernel_rfl) Try.func4 (by kernel_rfl)
    (of_decide_eq_true (by kernel_rfl)) (by unfold Func.isWrapper; first | (rw [if_pos (by decide +kernel)]; kernel_rfl) | (rw [if_neg (by decide +kernel)]; exact ⟨rfl, rfl⟩))
    (fun os started H enc _ => lifted os started H enc)
end Go.Proofs.Ytjndnconlakjkaa.ringsQueue

