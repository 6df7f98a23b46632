/- The claim: reparteelaw37.RingsTell answers true, and its arguments read behind the call as before, for every input. No further condition. -/
import Derived.Test.YtjndnconlakjkaaPlain
import Derived.Test.YtjndnconlakjkaaAbsFrame4
import Derived.Test.YtjndnconlakjkaaWeights
import Derived.HandedShaped
import Derived.Test.YtjndnconlakjkaaRows
import Derived.ProofKit
import Derived.JoinedCond
set_option maxRecDepth 100000
set_option linter.unusedSimpArgs false
set_option linter.unusedVariables false
set_option linter.unusedVariables false
set_option linter.unusedSimpArgs false
namespace Go.Proofs.Ytjndnconlakjkaa
open Go Go.Abs
variable {M : Nat}

section
variable {R : Type}
theorem res_put (t : Bool) (xs : List Let) (f g : Int) (b : Bool) (K) : tRes (R := R) (.tup [(.agg [.im 5, .int .i64, .int .i64]), (.one (.bool))] []) (some (.tup [rA t xs f g, .one (.d (.bool b))], [])) K = K ((((t, xs.map cL), f, g, ()), b, ()), ()) := by
  simp [tRes, rA, decR, decV, decVs, decD, decBs, dataL, decRow]
theorem res_take (t : Bool) (xs : List Let) (f g : Int) (x : Let) (b : Bool) (K) : tRes (R := R) (.tup [(.agg [.im 5, .int .i64, .int .i64]), (.agg [.str, .int .i64, .int .i64, .str, .im 1]), (.one (.bool))] []) (some (.tup [rA t xs f g, lA x, .one (.d (.bool b))], [])) K = K ((((t, xs.map cL), f, g, ()), (x.b, x.v.k, x.v.n, x.v.s, (x.v.t, x.v.l.map encI), ()), b, ()), ()) := by
  simp [tRes, rA, lA, decR, decV, decVs, decD, decBs, dataL, decRow]
end

def LX : Let := ⟨[120], zV⟩
def LY : Let := ⟨[121], zV⟩
def LZ : Let := ⟨[122], zV⟩
theorem okZ (M : Nat) : okV M zV := ⟨fun _ => rfl, Nat.zero_le _⟩
theorem ok2 (M : Nat) (a b : Let) (ha : a.v = zV) (hb : b.v = zV) : okM M [a, b] := by
  refine ⟨by simp, fun x hx => ?_⟩
  simp only [List.mem_cons, List.not_mem_nil, or_false] at hx
  rcases hx with rfl | rfl
  · rw [ha]; exact okZ M
  · rw [hb]; exact okZ M
theorem fst1 : putR false [zL, zL] 0 0 LX = .tup [rA false [LX, zL] 0 1, .one (.d (.bool true))] := by
  unfold putR; rw [if_pos (by decide)]; rfl
theorem fst2 : putR false [LX, zL] 0 1 LY = .tup [rA false [LX, LY] 0 2, .one (.d (.bool true))] := by
  unfold putR; rw [if_pos (by decide)]; rfl
theorem fst3 : putR false [LX, LY] 0 2 LZ = .tup [rA false [LX, LY] 0 2, .one (.d (.bool false))] := by
  unfold putR; rw [if_neg (by decide)]
theorem fst4 : takeR false [LX, LY] 0 2 = .tup [rA false [zL, LY] 1 1, lA LX, .one (.d (.bool true))] := by
  unfold takeR; rw [if_pos (by decide)]; rfl
theorem fst5 : listR [LX, LY] 0 2 = [LX, LY] := by
  unfold listR; rw [if_pos (by decide)]; rfl
theorem fst6 : listR [zL, LY] 1 1 = [LY] := by
  unfold listR; rw [if_pos (by decide)]; rfl
theorem fst7 : mayB [zL, LY] 1 1 = true := by decide
theorem firstN {n : Nat} (hM : M ≤ 17592186044416) (hn : M + 105 ≤ n) : Ct n 5 [] [] = some (bR true) := by
  refine Ct_of (an := an5) (N := M + 104) rfl hn fun n hn => ?_
  rw [p5]
  have h0 : Ct n 7 [.one (.d (.int .i64 2))] [] = some (rA false [zL, zL] 0 0, []) := newRing (by omega) 2
  have h1 := putN (n := n) hM hn false [zL, zL] (by simp) (ok2 M _ _ rfl rfl) 0 0 LX (okZ M)
  have h2 := putN (n := n) hM hn false [LX, zL] (by simp) (ok2 M _ _ rfl rfl) 0 1 LY (okZ M)
  have h3 := putN (n := n) hM hn false [LX, LY] (by simp) (ok2 M _ _ rfl rfl) 0 2 LZ (okZ M)
  have h4 := takeN (n := n) hM hn false [LX, LY] (by simp) (ok2 M _ _ rfl rfl) 0 2
  have h5 := listN (n := n) hM hn false [LX, LY] (ok2 M _ _ rfl rfl) 0 2
  have h6 := listN (n := n) hM hn false [zL, LY] (ok2 M _ _ rfl rfl) 1 1
  have h7 := mayR (n := n) hM (by omega) false [zL, LY] (ok2 M _ _ rfl rfl) 1 1
  rw [fst1] at h1
  rw [fst2] at h2
  rw [fst3] at h3
  rw [fst4] at h4
  rw [fst5] at h5
  rw [fst6] at h6
  rw [fst7] at h7
  have hX : lA LX = .agg [.d (.str [120]), .d (.int .i64 0), .d (.int .i64 0), .d (.str []), .d (.sl (.im true) 1 [])] := rfl
  have hY : lA LY = .agg [.d (.str [121]), .d (.int .i64 0), .d (.int .i64 0), .d (.str []), .d (.sl (.im true) 1 [])] := rfl
  have hZ : lA LZ = .agg [.d (.str [122]), .d (.int .i64 0), .d (.int .i64 0), .d (.str []), .d (.sl (.im true) 1 [])] := rfl
  rw [hX] at h1
  rw [hY] at h2
  rw [hZ] at h3
  have e1 : (natI (List.map cL [LX, LY]).length == 2) = true := rfl
  have e2 : (natI (List.map cL [LY]).length == 1) = true := rfl
  have e3 : (LX.b == [120]) = true := rfl
  have e4 : ((0 : Int) == 0) = true := rfl
  rw [h0, res_r]
  unfold rA at h1 h2 h3 h4 h5 h6 h7
  simp only [] at h1 ⊢
  rw [h1]
  erw [res_put]
  rw [h2]
  erw [res_put]
  rw [h3]
  erw [res_put]
  rw [h4]
  erw [res_take]
  simp only [cond_true, cond_false, Bool.not_false, h5, res_m, e1, h6, e2, h7, res_b, h0, res_r, e3, e4]
  rfl
end Go.Proofs.Ytjndnconlakjkaa

set_option maxRecDepth 100000
set_option linter.unusedVariables false
set_option linter.unusedSimpArgs false
namespace Go.Proofs.Ytjndnconlakjkaa
open Go Go.Abs
variable {M : Nat}

def stL (x : Let) : Let := { x with v := { x.v with t := false } }
theorem st_cp (x : Let) : stL (cpL x) = stL x := rfl
theorem st_cps (xs : List Let) : (xs.map cpL).map stL = xs.map stL := by rw [List.map_map]; rfl
theorem eqL_st {x y : Let} (h : stL x = stL y) : eqL x y = true := by
  have h1 : eqL x y = eqL (stL x) (stL y) := rfl
  rw [h1, h]
  unfold eqL eqV
  simp
def Sim (xs ys : List Let) : Prop := xs.map stL = ys.map stL
theorem Sim.len {xs ys : List Let} (h : Sim xs ys) : xs.length = ys.length := by
  have := congrArg List.length h
  simpa using this
theorem Sim.same : ∀ {xs ys : List Let}, Sim xs ys → sameM xs ys = true
  | [], [], _ => rfl
  | x :: xs, y :: ys, h => by
    unfold Sim at h
    simp only [List.map_cons, List.cons.injEq] at h
    unfold sameM
    rw [eqL_st h.1, Sim.same h.2]
    rfl
  | [], _ :: _, h => by cases h
  | _ :: _, [], h => by cases h
theorem Sim.cp {xs ys : List Let} (h : Sim xs ys) : Sim xs (ys.map cpL) := by unfold Sim; rw [st_cps]; exact h
theorem Sim.set {xs ys : List Let} (h : Sim xs ys) (i : Nat) {a b : Let} (hab : stL a = stL b) : Sim (xs.set i a) (ys.set i b) := by
  unfold Sim at h ⊢
  rw [List.map_set, List.map_set, h, hab]
theorem Sim.get {xs ys : List Let} (h : Sim xs ys) {i : Nat} (hi : i < xs.length) : stL (xs.getD i zL) = stL (ys.getD i zL) := by
  have hi' : i < ys.length := by rw [← h.len]; exact hi
  rw [getD_lt hi, getD_lt hi']
  have := congrArg (fun l => l[i]?) h
  simpa [hi, hi'] using this
theorem zat_st (xs : List Let) (i : Nat) : zat (xs.map stL) i = zat xs i := by
  unfold zat
  rw [List.getElem?_map]
  cases xs[i]? <;> rfl
theorem zrun_st (xs : List Let) (f : Nat) : ∀ c k, zrun (xs.map stL) f c k = zrun xs f c k
  | 0, _ => rfl
  | c + 1, k => by unfold zrun; rw [zat_st, zrun_st xs f c (k + 1), List.length_map]
theorem may_st (xs : List Let) (f g : Int) : mayB (xs.map stL) f g = mayB xs f g := by
  unfold mayB
  rw [zrun_st, List.length_map]
  congr 1
  unfold mayC
  simp only [List.length_map]
theorem Sim.may {xs ys : List Let} (h : Sim xs ys) (f g : Int) : mayB xs f g = mayB ys f g := by
  rw [← may_st xs, ← may_st ys]; unfold Sim at h; rw [h]
theorem Sim.ring {xs ys : List Let} (h : Sim xs ys) (f : Nat) (hl : 0 < xs.length) : ∀ c k, Sim (ringL xs f c k) (ringL ys f c k)
  | 0, _ => rfl
  | c + 1, k => by
    have ih := Sim.ring h f hl c (k + 1)
    unfold Sim at ih ⊢
    unfold ringL
    rw [List.map_cons, List.map_cons, ih, ← h.len, h.get (Nat.mod_lt _ hl)]
theorem Sim.list {xs ys : List Let} (h : Sim xs ys) (f g : Int) : Sim (listR xs f g) (listR ys f g) := by
  unfold listR
  rw [← h.may f g]
  split
  · rename_i hm
    obtain ⟨c1, c2, c3, c4, c5⟩ := mayT hm
    by_cases hl : 0 < xs.length
    · exact h.ring f.toNat hl _ _
    · have : g = 0 := by omega
      subst this
      rfl
  · rfl
theorem okV_cp {v : V4} (h : okV M v) : okV M (cpV v) := by
  refine ⟨fun ht => ?_, h.2⟩
  have ht : v.l.isEmpty = true := ht
  show v.l = []
  cases hv : v.l with
  | nil => rfl
  | cons a t => rw [hv] at ht; cases ht
theorem okM_cp {xs : List Let} (h : okM M xs) : okM M (xs.map cpL) := by
  refine ⟨by rw [List.length_map]; exact h.1, fun x hx => ?_⟩
  obtain ⟨y, hy, rfl⟩ := List.mem_map.1 hx
  exact okV_cp (h.2 y hy)
theorem okM_set {xs : List Let} (h : okM M xs) (i : Nat) {a : Let} (ha : okV M a.v) : okM M (xs.set i a) := by
  refine ⟨by rw [List.length_set]; exact h.1, fun x hx => ?_⟩
  rcases List.mem_or_eq_of_mem_set hx with h1 | h1
  · exact h.2 x h1
  · rw [h1]; exact ha
theorem okM_list {xs : List Let} (h : okM M xs) (f g : Int) : okM M (listR xs f g) := by
  unfold listR
  split
  · rename_i hm
    obtain ⟨c1, c2, c3, c4, c5⟩ := mayT hm
    have hl80 := h.1
    refine ⟨by rw [ringL_len]; omega, ?_⟩
    by_cases hl : 0 < xs.length
    · exact ringL_ok h _ hl _ _
    · have : g = 0 := by omega
      subst this
      intro x hx
      cases hx
  · exact ⟨by simp, fun x hx => by cases hx⟩

structure Inv (M : Nat) (t : Bool) (xs ys : List Let) : Prop where
  ox : okM M xs
  oy : okM M ys
  ht : t = true → xs = []
  sim : Sim xs ys
theorem Inv.cp {t : Bool} {xs ys : List Let} (h : Inv M t xs ys) : Inv M t xs (ys.map cpL) := ⟨h.ox, okM_cp h.oy, h.ht, h.sim.cp⟩
theorem Inv.set {t : Bool} {xs ys : List Let} (h : Inv M t xs ys) (i : Nat) {a b : Let} (ha : okV M a.v) (hb : okV M b.v) (hab : stL a = stL b) : Inv M t (xs.set i a) ((ys.map cpL).set i b) :=
  ⟨okM_set h.ox i ha, okM_set (okM_cp h.oy) i hb, fun ht => by rw [h.ht ht]; rfl, h.sim.cp.set i hab⟩

theorem dec_tk (a : Act) : decRow [.bool] (List.take 1 (List.drop 0 (cA a))) = some (a.tk, ()) := by simp [cA, cL, cV, decRow, decD]
theorem take5 (a : Act) : List.take 5 (List.drop 1 (cA a)) = cL a.l := rfl
theorem notxor (b : Bool) : (!b == b) = false := by cases b <;> rfl

theorem tell_loop {n : Nat} (hM : M ≤ 17592186044416) (hn : M + 106 ≤ n) (ta : Bool) (zs : List Act) (hz : zs.length ≤ 80) (hzs : ∀ a ∈ zs, okV M a.l.v) : ∀ (m j : Nat) (t t' : Bool) (xs ys : List Let) (f g : Int), j ≤ zs.length → zs.length - j < m → Inv M t xs ys →
    h3_0 (Ct n) n [] m (s3_0_0 ta (zs.map cA) t (xs.map cL) f g t' (ys.map cL) f g (j : Int)) = some (bR true)
  | 0, j, _, _, _, _, _, _, _, h, _ => by omega
  | m + 1, j, t, t', xs, ys, f, g, hj, hm, I => by
    rw [ph3_0_0]
    have h11 := mayR (n := n) hM (by omega) t xs I.ox f g
    have h12 := ringMay (n := n) hM (by omega) t' ys I.oy f g
    rw [← I.sim.may f g] at h12
    have h14 := listN (n := n) hM (by omega) t xs I.ox f g
    have h15 := listRing (n := n) hM (by omega) t' ys I.oy f g
    have h13 := sameMail (n := n) hM (by omega) (listR xs f g).isEmpty (listR ys f g).isEmpty (listR xs f g) ((listR ys f g).map cpL) (okM_list I.ox f g)
    rw [(I.sim.list f g).cp.same] at h13
    have h8 := sameRing (n := n) hM (by omega) t t' xs ys I.ox f g f g
    rw [I.sim.same] at h8
    have h8 : Ct n 8 [rA t xs f g, rA t' ys f g] [] = some (bR true) := by rw [h8]; simp
    have hle : decide ((j : Int) ≤ natI (zs.map cA).length) = true := by rw [natI_eq, List.length_map]; exact dtrue (by omega)
    unfold rA at h11 h12 h14 h15 h8
    unfold mA at h13
    simp only [hle, cond_true, h11, res_b, h12, notxor, cond_false, h14, res_m, h15, h13, Bool.not_true, h8]
    by_cases hlt : j < zs.length
    · have hne : ((j : Int) == natI (zs.map cA).length) = false := by
        rw [natI_eq, List.length_map]; exact beq_false_of_ne (by omega)
      have hgt : (zs.map cA)[j]? = some (cA zs[j]) := by simp [hlt]
      have d1 : (1 ≤ (List.drop 0 (cA zs[j])).length) = True := by simp [cA]
      have d5 : (5 ≤ (List.drop 1 (cA zs[j])).length) = True := by simp [cA, cL, cV]
      have hok := mem_get hzs hlt
      simp only [hne, cond_false, asI_nat, qOpt_some, hgt, d1, decide_true, cond_true, tRow_eq _ (dec_tk _)]
      cases htk : zs[j].tk with
      | true =>
        simp only [cond_true]
        have h16 := takeN (n := n) hM (by omega) t xs I.ht I.ox f g
        have h17 := takeRing (n := n) hM (by omega) t' ys I.oy f g
        unfold takeR at h16
        unfold takeRR at h17
        rw [← I.sim.may f g, ← I.sim.len] at h17
        by_cases hc : mayB xs f g = true ∧ g ≠ 0
        · rw [if_pos hc] at h16 h17
          obtain ⟨c1, c2, c3, c4, c5⟩ := mayT hc.1
          have hfl : f.toNat < xs.length := by omega
          have hst : stL (xs.getD f.toNat zL) = stL ((ys.map cpL).getD f.toNat zL) := I.sim.cp.get hfl
          have ih := tell_loop hM hn ta zs hz hzs m (j + 1) t false (xs.set f.toNat zL) ((ys.map cpL).set f.toNat zL) (((f.toNat + 1) % xs.length : Nat) : Int) (g - 1) (by omega) (by omega) (I.set f.toNat (okZ M) (okZ M) rfl)
          generalize hX : xs.getD f.toNat zL = X at *
          generalize hY : (ys.map cpL).getD f.toNat zL = Y at *
          have hoX : okV M X.v := by rw [← hX, getD_lt hfl]; exact mem_get I.ox.2 hfl
          have hs := sameMail (n := n) hM (by omega) false false [X] [Y] ⟨by simp, fun x hx => by rw [List.mem_singleton] at hx; subst hx; exact hoX⟩
          rw [Sim.same (show Sim [X] [Y] by unfold Sim; rw [List.map_cons, List.map_cons, hst])] at hs
          have hs : Ct n 13 [.one (.d (.sl (.im false) 5 [[.str X.b, .int .i64 X.v.k, .int .i64 X.v.n, .str X.v.s, .sl (.im X.v.t) 1 (X.v.l.map encI)]])), .one (.d (.sl (.im false) 5 [[.str Y.b, .int .i64 Y.v.k, .int .i64 Y.v.n, .str Y.v.s, .sl (.im Y.v.t) 1 (Y.v.l.map encI)]]))] [] = some (bR true) := hs
          have r16 := fun K => res_take (R := V × List (List C)) t (xs.set f.toNat zL) (((f.toNat + 1) % xs.length : Nat) : Int) (g - 1) X true K
          have r17 := fun K => res_take (R := V × List (List C)) false ((ys.map cpL).set f.toNat zL) (((f.toNat + 1) % xs.length : Nat) : Int) (g - 1) Y true K
          unfold rA at h16 h17 r16 r17
          simp only [h16, h17, r16, r17, notxor, cond_false, hs, res_b, Bool.not_true, next_i (j := j) (by omega), ih]
        · rw [if_neg hc] at h16 h17
          have ih := tell_loop hM hn ta zs hz hzs m (j + 1) t ys.isEmpty xs (ys.map cpL) f g (by omega) (by omega) I.cp
          have hs := sameMail (n := n) hM (by omega) false false [zL] [zL] ⟨by simp, fun x hx => by rw [List.mem_singleton] at hx; subst hx; exact okZ M⟩
          rw [Sim.same (show Sim [zL] [zL] from rfl)] at hs
          have hs : Ct n 13 [.one (.d (.sl (.im false) 5 [[.str zL.b, .int .i64 zL.v.k, .int .i64 zL.v.n, .str zL.v.s, .sl (.im zL.v.t) 1 (zL.v.l.map encI)]])), .one (.d (.sl (.im false) 5 [[.str zL.b, .int .i64 zL.v.k, .int .i64 zL.v.n, .str zL.v.s, .sl (.im zL.v.t) 1 (zL.v.l.map encI)]]))] [] = some (bR true) := hs
          have r16 := fun K => res_take (R := V × List (List C)) t xs f g zL false K
          have r17 := fun K => res_take (R := V × List (List C)) ys.isEmpty (ys.map cpL) f g zL false K
          unfold rA at h16 h17 r16 r17
          generalize zL = Z at *
          simp only [h16, h17, r16, r17, notxor, cond_false, hs, res_b, Bool.not_true, next_i (j := j) (by omega), ih]
      | false =>
        simp only [cond_false, d5, decide_true, cond_true, take5, tRow_eq _ (dec_L _)]
        have h18 := putN (n := n) hM (by omega) t xs I.ht I.ox f g zs[j].l hok
        have h19 := putRing (n := n) hM (by omega) t' ys I.oy f g zs[j].l hok
        unfold putR at h18
        unfold putRR at h19
        rw [← I.sim.may f g, ← I.sim.len] at h19
        by_cases hc : mayB xs f g = true ∧ g ≠ xs.length
        · rw [if_pos hc] at h18 h19
          have ih := tell_loop hM hn ta zs hz hzs m (j + 1) t false (xs.set ((f.toNat + g.toNat) % xs.length) zs[j].l) ((ys.map cpL).set ((f.toNat + g.toNat) % xs.length) (cpL zs[j].l)) f (g + 1) (by omega) (by omega) (I.set _ hok (okV_cp hok) rfl)
          have r18 := fun K => res_put (R := V × List (List C)) t (xs.set ((f.toNat + g.toNat) % xs.length) zs[j].l) f (g + 1) true K
          have r19 := fun K => res_put (R := V × List (List C)) false ((ys.map cpL).set ((f.toNat + g.toNat) % xs.length) (cpL zs[j].l)) f (g + 1) true K
          unfold lA at h18 h19
          unfold rA at h18 h19 r18 r19
          simp only [h18, h19, r18, r19, notxor, cond_false, next_i (j := j) (by omega), ih]
        · rw [if_neg hc] at h18 h19
          have ih := tell_loop hM hn ta zs hz hzs m (j + 1) t ys.isEmpty xs (ys.map cpL) f g (by omega) (by omega) I.cp
          have r18 := fun K => res_put (R := V × List (List C)) t xs f g false K
          have r19 := fun K => res_put (R := V × List (List C)) ys.isEmpty (ys.map cpL) f g false K
          unfold lA at h18 h19
          unfold rA at h18 h19 r18 r19
          simp only [h18, h19, r18, r19, notxor, cond_false, next_i (j := j) (by omega), ih]
    · have hj' : j = zs.length := by omega
      have he : ((j : Int) == natI (zs.map cA).length) = true := by rw [natI_eq, List.length_map, hj']; exact beq_self_eq_true _
      simp only [he, cond_true]
      rfl
end Go.Proofs.Ytjndnconlakjkaa

set_option maxRecDepth 100000
set_option linter.unusedVariables false
set_option linter.unusedSimpArgs false
namespace Go.Proofs.Ytjndnconlakjkaa
open Go Go.Abs
variable {M : Nat}

theorem tell01 (Cl : Oracle) (n : Nat) (a0 : Bool) (a1 : List (List D)) (a2 : Bool) (a3 : List (List D)) (a4 a5 : Int) (ys : List Let) (a7 a8 a9 : Int) : ∀ (m : Nat), 1 ≤ m →
    h3_0 Cl n [] m (s3_0_1 a0 a1 a2 a3 a4 a5 (ys.map cL) a7 a8 a9) = h3_0 Cl n [] m (s3_0_0 a0 a1 a2 a3 a4 a5 false (ys.map cL) a7 a8 a9)
  | m + 1, _ => by
    rw [ph3_0_1, ph3_0_0]
    simp only [plain_lets, whole_eq, Nat.zero_add, Nat.le_refl, decide_true, cond_true]

theorem tell_go {n : Nat} (hM : M ≤ 17592186044416) (hn : M + 106 ≤ n) (ta : Bool) (zs : List Act) (hz : zs.length ≤ 80) (hzs : ∀ a ∈ zs, okV M a.l.v) (t : Bool) (xs : List Let) (hx : okM M xs) (ht : t = true → xs = []) (f g : Int) :
    tRes (R := V × List (List C)) (.val (.agg [.sl 5, .int .i64, .int .i64]) []) (some (if xs = [] then rA true [] f g else rO (xs.map cpL) f g, []))
      (fun v7 => (tagI (v7.fst.fst.fst) (fun b8 => (h3_0 (Ct n) n [] n (s3_0_0 ta (zs.map cA) t (xs.map cL) f g b8 (v7.fst.fst.snd) (v7.fst.snd.fst) (v7.fst.snd.snd.fst) 0))) (h3_0 (Ct n) n [] n (s3_0_1 ta (zs.map cA) t (xs.map cL) f g (v7.fst.fst.snd) (v7.fst.snd.fst) (v7.fst.snd.snd.fst) 0)))) = some (bR true) := by
  by_cases he : xs = []
  · subst he
    rw [if_pos rfl, res_rs]
    simp only [tagI]
    exact tell_loop hM hn ta zs hz hzs n 0 t true [] [] f g (by omega) (by omega) ⟨hx, hx, fun _ => rfl, rfl⟩
  · rw [if_neg he, res_ro]
    simp only [tagI]
    rw [tell01 _ _ _ _ _ _ _ _ _ _ _ _ n (by omega)]
    exact tell_loop hM hn ta zs hz hzs n 0 t false xs (xs.map cpL) f g (by omega) (by omega) ⟨hx, okM_cp hx, ht, Sim.cp rfl⟩

theorem okM_new (M n : Nat) (h : n ≤ 64) : okM M (newR n) := by
  refine ⟨by unfold newR; rw [List.length_replicate]; omega, fun x hx => ?_⟩
  unfold newR at hx
  rw [List.mem_replicate] at hx
  rw [hx.2]; exact okZ M
theorem cap_le (room : Int) : cap room ≤ 64 := by
  unfold cap
  split <;> split <;> omega

/- reparteelaw37.RingsTell -/
theorem tellN {n : Nat} (hM : M ≤ 17592186044416) (hn : M + 107 ≤ n) (t : Bool) (xs : List Let) (f g : Int) (raw : Bool) (room : Int) (ta : Bool) (zs : List Act) (ht : t = true → xs = []) (hx : ∀ x ∈ xs, okV M x.v) (hzs : ∀ a ∈ zs, okV M a.l.v) :
    Ct n 3 [rA t xs f g, .one (.d (.bool raw)), .one (.d (.int .i64 room)), .one (.d (.sl (.im ta) 6 (zs.map cA)))] [] = some (bR true) := by
  refine Ct_of (an := an3) (N := M + 106) rfl hn fun n hn => ?_
  have h5 := firstN (n := n) hM (by omega)
  have h6 := fewN (n := n) (by omega) ta t xs f g zs
  unfold rA at h6 ⊢
  rw [p3]
  simp only [h5, res_b, Bool.not_true, cond_false, h6]
  cases hf : fewB xs zs with
  | false => rfl
  | true =>
    have hf2 := hf
    unfold fewB at hf2
    simp only [Bool.and_eq_true, decide_eq_true_eq] at hf2
    obtain ⟨_, hx80, hz80⟩ := hf2
    simp only [Bool.not_true, cond_false]
    cases raw with
    | true =>
      simp only [Bool.not_true, cond_false]
      have h10 := copyRing (n := n) hM (by omega) t xs ⟨hx80, hx⟩ f g
      unfold rA at h10
      rw [h10]
      exact tell_go hM hn ta zs hz80 hzs t xs ⟨hx80, hx⟩ ht f g
    | false =>
      simp only [Bool.not_false, cond_true]
      have h7 := newRing (n := n) (by omega) room
      have h9 := newRing' (n := n) (by omega) room
      have ho := okM_new M (cap room) (cap_le room)
      have h8 := sameRing (n := n) hM (by omega) false false (newR (cap room)) (newR (cap room)) ho 0 0 0 0
      rw [Sim.same (show Sim (newR (cap room)) (newR (cap room)) from rfl)] at h8
      have h8 : Ct n 8 [rA false (newR (cap room)) 0 0, rA false (newR (cap room)) 0 0] [] = some (bR true) := h8
      have h10 := copyRing (n := n) hM (by omega) false (newR (cap room)) ho 0 0
      unfold rA at h8 h10
      simp only [h7, res_r, h9, h8, res_b, Bool.not_true, cond_false]
      rw [h10]
      exact tell_go hM hn ta zs hz80 hzs false (newR (cap room)) ho (by simp) 0 0
end Go.Proofs.Ytjndnconlakjkaa

set_option maxRecDepth 100000
set_option linter.unusedVariables false
set_option linter.unusedSimpArgs false
namespace Go.Proofs.Ytjndnconlakjkaa
open Go Go.Abs

theorem rows_map {α : Type} {enc : α → List D} {Q : α → Prop} : ∀ {rows : List (List D)}, (∀ r ∈ rows, ∃ x, r = enc x ∧ Q x) → ∃ xs : List α, rows = xs.map enc ∧ ∀ x ∈ xs, Q x
  | [], _ => ⟨[], rfl, fun x h => by cases h⟩
  | r :: t, h => by
    obtain ⟨x, rfl, hq⟩ := h r (List.mem_cons_self ..)
    obtain ⟨xs, rfl, hqs⟩ := rows_map (rows := t) (fun r hr => h r (List.mem_cons_of_mem _ hr))
    exact ⟨x :: xs, rfl, fun y hy => by rcases List.mem_cons.1 hy with h | h; subst h; exact hq; exact hqs y h⟩

def tsL : List TS := [.str, .int .i64, .int .i64, .str, .sl 1 [.int .i64]]
theorem ok_int {x : D} {k : IntKind} (h : okD (.int k) x) : ∃ n, x = .int k n := by
  cases x <;> simp only [okD] at h
  obtain ⟨rfl, _⟩ := h; exact ⟨_, rfl⟩
theorem ok_str {x : D} (h : okD .str x) : ∃ s, x = .str s := by
  cases x <;> simp only [okD] at h
  exact ⟨_, rfl⟩
theorem ok_bool {x : D} (h : okD .bool x) : ∃ s, x = .bool s := by
  cases x <;> simp only [okD] at h
  exact ⟨_, rfl⟩
theorem ok_sl {x : D} {sz : Nat} {ts : List TS} (h : okD (.sl sz ts) x) : ∃ b rows, x = .sl (.im b) sz rows ∧ (b = true → rows = []) ∧ ∀ r ∈ rows, okR ts r := by
  cases x with
  | sl t sz' rows =>
    cases t with
    | im b => simp only [okD] at h; obtain ⟨rfl, h1, h2⟩ := h; exact ⟨_, _, rfl, h1, h2⟩
    | own => simp only [okD] at h
  | _ => simp only [okD] at h
theorem okR_cons {t : TS} {ts : List TS} {r : List D} (h : okR (t :: ts) r) : ∃ x r', r = x :: r' ∧ okD t x ∧ okR ts r' := by
  cases r with
  | nil => simp only [okR] at h
  | cons x r' => simp only [okR] at h; exact ⟨x, r', rfl, h.1, h.2⟩
theorem okR_nil {r : List D} (h : okR [] r) : r = [] := by
  cases r with
  | nil => rfl
  | cons => simp only [okR] at h
theorem ok_ints {rows : List (List D)} (h : ∀ r ∈ rows, okR [.int .i64] r) : ∃ l : List Int, rows = l.map encI := by
  obtain ⟨l, h1, _⟩ := rows_map (enc := encI) (Q := fun _ => True) (fun r hr => by
    obtain ⟨x, r', rfl, h1, h2⟩ := okR_cons (h r hr)
    obtain ⟨n, rfl⟩ := ok_int h1
    rw [okR_nil h2]
    exact ⟨n, rfl, trivial⟩)
  exact ⟨l, h1⟩
theorem ok_let {r : List D} (h : okR tsL r) : ∃ x : Let, r = cL x ∧ (x.v.t = true → x.v.l = []) := by
  unfold tsL at h
  obtain ⟨a, r1, rfl, h1, h⟩ := okR_cons h
  obtain ⟨b, r2, rfl, h2, h⟩ := okR_cons h
  obtain ⟨c, r3, rfl, h3, h⟩ := okR_cons h
  obtain ⟨d, r4, rfl, h4, h⟩ := okR_cons h
  obtain ⟨e, r5, rfl, h5, h⟩ := okR_cons h
  rw [okR_nil h]
  obtain ⟨a, rfl⟩ := ok_str h1
  obtain ⟨b, rfl⟩ := ok_int h2
  obtain ⟨c, rfl⟩ := ok_int h3
  obtain ⟨d, rfl⟩ := ok_str h4
  obtain ⟨t, rows, rfl, h6, h7⟩ := ok_sl h5
  obtain ⟨l, rfl⟩ := ok_ints h7
  exact ⟨⟨a, ⟨b, c, d, t, l⟩⟩, rfl, fun ht => by simpa using h6 ht⟩
theorem ok_act {r : List D} (h0 : okR (.bool :: tsL) r) : ∃ x : Act, r = cA x ∧ (x.l.v.t = true → x.l.v.l = []) := by
  obtain ⟨a, r1, rfl, h1, h2⟩ := okR_cons h0
  obtain ⟨a, rfl⟩ := ok_bool h1
  obtain ⟨x, rfl, hx⟩ := ok_let h2
  exact ⟨⟨a, x⟩, rfl, hx⟩
theorem w_let {x : Let} (h : okWR (cL x)) : x.v.l.length ≤ 17592186044416 := by
  simp only [cL, cV, List.cons_append, List.nil_append, okWR, okWD, List.length_map, reachBytes] at h
  omega
theorem w_act {x : Act} (h : okWR (cA x)) : x.l.v.l.length ≤ 17592186044416 := by
  simp only [cA, cL, cV, List.cons_append, List.nil_append, okWR, okWD, List.length_map, reachBytes] at h
  omega
end Go.Proofs.Ytjndnconlakjkaa

set_option maxRecDepth 100000
set_option linter.unusedVariables false
namespace Go.Proofs.Ytjndnconlakjkaa.ringsTell
open Go Go.Abs Go.ChangeShapes Go.WideShapes Go.ChangeAt

theorem own : ownKnob Try.prog.godebug = none := by kernel_rfl
theorem params : Try.f3.params.toList = [24, 4, 3, 25] := by kernel_rfl
theorem types : tsAll Try.prog 20 [24, 4, 3, 25] = some [[.sl 5 tsL, .int .i64, .int .i64], [.bool], [.int .i64], [.sl 6 (.bool :: tsL)]] := by kernel_rfl
theorem arg1 (r : List D) : argV Try.prog 24 r = .agg (r.map .d) := by kernel_rfl
theorem arg2 (r : List D) : argV Try.prog 4 r = .one (.d (r.headD .dead)) := by kernel_rfl
theorem arg3 (r : List D) : argV Try.prog 3 r = .one (.d (r.headD .dead)) := by kernel_rfl
theorem arg4 (r : List D) : argV Try.prog 25 r = .one (.d (r.headD .dead)) := by kernel_rfl

theorem eqn {H : Type} (ds : List (DataW H)) (hw : ∀ x ∈ DataW.weightsEach Try.prog [24, 4, 3, 25] ds, x ≤ reachBytes) (rs : List (List D)) (hd : dataAll Try.prog 20 [24, 4, 3, 25] ds = some rs)
    (ho : okRs [[.sl 5 tsL, .int .i64, .int .i64], [.bool], [.int .i64], [.sl 6 (.bool :: tsL)]] rs) :
    ∃ N out, evN tab (fun _ _ _ => none) N 3 (argVs Try.prog [24, 4, 3, 25] rs) [] = some (.one (.d (.bool true)), out) := by
  have hbig : ∀ t ∈ [24, 4, 3, 25], big Try.prog 20 t = true := List.all_eq_true.1 (by kernel_rfl)
  have hb := w_all hd hbig hw
  match rs, ho with
  | [r1, r2, r3, r4], ⟨h1, h2, h3, h4, _⟩ =>
    obtain ⟨x, q1, rfl, k1, g1⟩ := okR_cons h1
    obtain ⟨y, q2, rfl, k2, g2⟩ := okR_cons g1
    obtain ⟨z, q3, rfl, k3, g3⟩ := okR_cons g2
    obtain rfl := okR_nil g3
    obtain ⟨t, rows, rfl, h7, h8⟩ := ok_sl k1
    obtain ⟨f, rfl⟩ := ok_int k2
    obtain ⟨g, rfl⟩ := ok_int k3
    obtain ⟨x2, q4, rfl, k4, g4⟩ := okR_cons h2
    obtain rfl := okR_nil g4
    obtain ⟨raw, rfl⟩ := ok_bool k4
    obtain ⟨x3, q5, rfl, k5, g5⟩ := okR_cons h3
    obtain rfl := okR_nil g5
    obtain ⟨room, rfl⟩ := ok_int k5
    obtain ⟨x4, q6, rfl, k6, g6⟩ := okR_cons h4
    obtain rfl := okR_nil g6
    obtain ⟨ta, rows', rfl, h9, h10⟩ := ok_sl k6
    have hb1 := hb _ (List.mem_cons_self ..)
    have hb4 := hb [.sl (.im ta) 6 rows'] (by simp)
    simp only [okWR, okWD] at hb1 hb4
    obtain ⟨xs, rfl, hxs⟩ := rows_map (enc := cL) (Q := fun x => okV 17592186044416 x.v) (fun r hr => by
      obtain ⟨x, rfl, hx⟩ := ok_let (h8 r hr)
      exact ⟨x, rfl, hx, w_let (okWRs_mem hb1.1.2 hr)⟩)
    obtain ⟨zs, rfl, hzs⟩ := rows_map (enc := cA) (Q := fun x => okV 17592186044416 x.l.v) (fun r hr => by
      obtain ⟨x, rfl, hx⟩ := ok_act (h10 r hr)
      exact ⟨x, rfl, hx, w_act (okWRs_mem hb4.1.2 hr)⟩)
    refine ⟨17592186044416 + 107, [], ?_⟩
    have := tellN (M := 17592186044416) (n := 17592186044416 + 107) (Nat.le_refl _) (Nat.le_refl _) t xs f g raw room ta zs (fun ht => by simpa using h7 ht) hxs hzs
    simp only [argVs, arg1, arg2, arg3, arg4]
    exact this

theorem trodAll_len {H : Type} {enc : TypeId × Value → H} {P : Program} {W : World} {b : Nat} {sp : Nat → Bool} {hd : Bool} : ∀ {ts : List TypeId} {vs : List Value} {ds : List (DataW H)} {ps : List MemPlace}, DataW.TrodAll enc P W b sp hd ts vs ds ps → ds.length = ts.length
  | [], vs, ds, ps, h => by cases vs <;> cases ds <;> simp_all [DataW.TrodAll]
  | t :: ts, vs, ds, ps, h => by
    cases vs with
    | nil => simp [DataW.TrodAll] at h
    | cons v vs =>
      cases ds with
      | nil => simp [DataW.TrodAll] at h
      | cons d ds => obtain ⟨p, q, _, h2, _⟩ := h; simp [trodAll_len h2]

theorem contract (H : Type) (enc : TypeId × Value → H) (W : World) (base : Nat) (args : Array Value) (ds gs : List (DataW H)) (before : List MemPlace)
    (hval : ∀ (j : Nat) t v, Try.f3.params[j]? = some t → args[j]? = some v → Value.okWide Try.prog W .any base t v)
    (hW : DataW.Whole enc Try.prog Try.f3.params.toList Rows.ringsTellSpec.vars false W args.toList ds gs before) (hwt : ∀ x ∈ DataW.weightsEach Try.prog [24, 4, 3, 25] ds, x ≤ reachBytes) :
    Calls Try.prog 3 args W fun e W' => ∃ v, e = .returned v ∧ Rows.ringsTellSpec.post enc Try.prog Try.f3 false true false false W args v W' := by
  have hs : ∀ t ∈ Try.f3.params.toList, simpleT Try.prog 20 t = true := List.all_eq_true.1 (by kernel_rfl)
  have hW0 := hW
  obtain ⟨p, q, hA, hV, _⟩ := hW
  obtain ⟨rfl, _⟩ := trodVars_none hV
  have hO : ∀ N, OSound Try.prog nm (evN tab (fun _ _ _ => none) N) := fun N => @evN_sound nm Try.prog tab (fun _ _ _ => none) tabOk (by intro f vs bx r out fid _ h; cases h) N
  refine (law_calls' (b := true) hO (f0 := 3) rfl Try.func3 (by kernel_rfl) rfl hA hs (by rw [params]; exact types) (fun j t v h1 h2 => hval j t v (by simpa using h1) h2) (fun rs h1 h2 => by rw [params] at h1 ⊢; exact eqn ds hwt rs h1 h2)).mono fun e W' ⟨he, hl⟩ => ⟨_, he, ?_⟩
  refine law_post hW0 rfl hs (tb := Try.f3.resultTypes.getD 0 0) (by kernel_rfl) (by kernel_rfl) ?_ ?_ ?_ hl
  all_goals
    have hlen : ds.length = 4 := (trodAll_len hA).trans (by kernel_rfl)
    match ds, hlen with
    | [d1, d2, d3, d4], _ => rfl

theorem lifted (os : Os) (started : os.Started) (H : Type) (enc : TypeId × Value → H) :
    ReturnsInHanded {} Try.checked os 3 .any (Rows.ringsTellSpec.pre6 enc Try.prog Try.f3 Rows.ringsTellRow.domain false) (Rows.ringsTellSpec.post enc Try.prog Try.f3 false true false false) := by
  refine returnsInHanded_of_change_shaped (C := Try.checked) own started (by kernel_rfl) Try.func3
    (ChangeSpec.witness6 (enc := enc) (C := Try.checked) false ⟨#[], #[.agg #[.slice none 0 0, .int .i64 0, .int .i64 0], .bool false, .int .i64 0, .slice none 0 0], []⟩ 8 (by kernel_rfl) (by kernel_rfl) (by kernel_rfl) (by kernel_rfl)) ?_
  intro W base args ds gs before hval hW _ hwt _ _
  have hgs : gs = [] := by
    obtain ⟨p, q, _, hV, _⟩ := hW
    exact (trodVars_none hV).1
  subst hgs
  refine contract H enc W base args ds [] before hval hW (fun x hx => ?_)
  rw [List.all_eq_true] at hwt
  have := hwt x (by rw [params, List.append_nil]; exact hx)
  simpa using this

theorem proved : Rows.RingsTellSaid :=
  OpenClaim.holds_of_wide 3 Try.f3 rfl rfl rfl rfl rfl rfl rfl ⟨rfl, rfl, rfl, rfl, rfl⟩ rfl rfl rfl rfl rfl (by kernel_rfl) Try.func3 (by kernel_rfl)
    (of_decide_eq_true (by kernel_rfl)) (by unfold Func.isWrapper; first | (rw [if_pos (by decide +kernel)]; kernel_rfl) | (rw [if_neg (by decide +kernel)]; exact ⟨rfl, rfl⟩))
    (fun os started H enc _ => lifted os started H enc)
end Go.Proofs.Ytjndnconlakjkaa.ringsTell

