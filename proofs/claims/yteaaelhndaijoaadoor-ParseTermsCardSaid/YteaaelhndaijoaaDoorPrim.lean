/- The functions that the law reaches as the evaluator takes them, and what they come to: printed by program. -/
import Derived.Test.YteaaelhndaijoaaDoorCode
import Derived.Test.YteaaelhndaijoaaDoorShelf
import Derived.Test.YteaaelhndaijoaaDoorAbs9
import Derived.Test.YteaaelhndaijoaaDoorRows
import Derived.KernelRfl
import Derived.Lib.Walk
import Derived.Lib.Builder
import Derived.Lib.UnsafeStr
import Derived.WalkKit
import Derived.Laws.Externs
set_option linter.unusedVariables false
set_option maxRecDepth 100000
namespace Go.Proofs.YteaaelhndaijoaaDoor
open Go Go.Abs Go.RowKit Go.Proofs Go.Sort
set_option maxHeartbeats 1000000 in
theorem cc_used (b : Nat) (w : World) (h0 : w.cell? ⟨b, 0, none⟩ = some (.pointer (some ⟨b, 0, none⟩))) :
    Calls Tryd.prog 52 #[.pointer (some ⟨b, 0, none⟩)] w fun e w' => e = .returned (.tuple #[]) ∧ w' = w := by
  obtain ⟨j, hj⟩ : ∃ j, Tryd.prog.info? 71 = some j := Option.isSome_iff_exists.1 (by kernel_rfl)
  have hp : Tryd.prog.underlying 68 = some (.pointer 71) := by kernel_rfl
  go_enter Tryd.func52, Tryd.ntmps52
  go_wp2
  rw [Lib.run_neq_ptr_same w _ hp hj]
  go_wp2
  go_end0
  exact ⟨rfl, rfl⟩
set_option maxHeartbeats 1000000 in
theorem cc_fresh (b : Nat) (w : World) (h0 : w.cell? ⟨b, 0, none⟩ = some (.pointer none)) (hsh : w.shape? b = some (71, 2)) (hfz : w.frozen? ⟨b, 0, none⟩ = false) :
    Calls Tryd.prog 52 #[.pointer (some ⟨b, 0, none⟩)] w fun e w' => e = .returned (.tuple #[]) ∧ w' = w.setCell ⟨b, 0, none⟩ (.pointer (some ⟨b, 0, none⟩)) := by
  obtain ⟨j, hj, hjs⟩ : ∃ j, Tryd.prog.info? 71 = some j ∧ j.size = 2 := Option.map_eq_some_iff.1 (by kernel_rfl)
  have hp : Tryd.prog.underlying 68 = some (.pointer 71) := by kernel_rfl
  have hu : Tryd.prog.underlying 116 = some .unsafePointer := by kernel_rfl
  go_enter Tryd.func52, Tryd.ntmps52
  go_wp2
  rw [Lib.run_to_unsafe w ⟨b, 0, none⟩ hp hu hj (by rw [hjs]; decide) hsh (Nat.zero_lt_succ 1)]
  simp only [Result.andThen]
  rw [Oper.upon_value]
  go_wp2
  rw [run_callFunc_extern Tryd.func61 (by kernel_rfl) (by kernel_rfl) (by kernel_rfl) (e := Extern.AbiNoEscape.same) (by kernel_rfl)]
  rw [Lib.run_noEscape]
  simp only [Result.andThen]
  rw [Oper.upon_value]
  go_wp2
  rw [Lib.run_from_unsafe w ⟨b, 0, none⟩ hu hp hj hsh (by kernel_rfl)]
  simp only [Result.andThen]
  rw [Oper.upon_value]
  go_wp2
  go_end0
  exact ⟨rfl, rfl⟩
def pow10N : String := (Rows.parseTermsRow.laid.map (·.1)).getD 2 default
def digs : Nat → Nat → List UInt8
  | 0, u => [UInt8.ofNat (48 + u)]
  | f + 1, u => if u < 10 then [UInt8.ofNat (48 + u)] else digs f (u / 10) ++ [UInt8.ofNat (48 + u % 10)]
theorem digs_eq : ∀ (f u : Nat), u < 10 ^ (f + 1) → digs f u = Lib.decDigits u
  | 0, u, h => by rw [Lib.decDigits, dif_pos (by simpa using h)]; rfl
  | f + 1, u, h => by
    rw [Lib.decDigits]
    simp only [digs]
    by_cases h1 : u < 10
    · rw [if_pos h1, dif_pos h1]
    · rw [if_neg h1, dif_neg h1, digs_eq f (u / 10) (by rw [Nat.pow_succ] at h; omega)]
def itoaK (n : Int) : List UInt8 := if n < 0 then 45 :: digs 19 n.natAbs else digs 19 n.toNat
theorem itoaK_eq {n : Int} (h0 : -9223372036854775808 ≤ n) (h1 : n ≤ 9223372036854775807) : itoaK n = Lib.itoa n := by
  unfold itoaK Lib.itoa
  by_cases h : n < 0
  · rw [if_pos h, if_pos h, digs_eq _ _ (by simp; omega)]
  · rw [if_neg h, if_neg h, digs_eq _ _ (by simp; omega)]
abbrev ofEnd (sat : Int) : Lib.NumEnd Int → V
  | .ok v => .tup [.one (.d (.int .i64 v)), .one .nili]
  | .range => .tup [.one (.d (.int .i64 sat)), .one .ifc]
  | _ => .tup [.one (.d (.int .i64 0)), .one .ifc]
def primT : Oracle := fun f vs bx => match f with
  | 52 => match vs, bx with
    | [.one (.ptr (.e 0) 0 0)], [[.bld t, x]] => match Nat.beq t 71 with
      | true => some (.tup [], [[.bld 71, x]])
      | false => none
    | _, _ => none
  | 53 => match vs, bx with
    | [.one (.d (.int .i64 n)), .one (.d (.int .i64 m))], [] => if m = 10 ∧ -9223372036854775808 ≤ n ∧ n ≤ 9223372036854775807 then some (.one (.d (.str (itoaK n))), []) else none
    | _, _ => none
  | 45 => match vs, bx with
    | [.one (.d (.str s)), .one (.d (.int .i64 m)), .one (.d (.int .i64 k))], [] => if m = 10 ∧ k = 64 ∧ s.length ≤ 281474976710656 then some (ofEnd (Lib.intSat 64 s) (Lib.parseIntB 64 s), []) else none
    | _, _ => none
  | 50 => match vs, bx with
    | [.one (.d (.str s))], [] => if s.length ≤ 281474976710656 then some (ofEnd (Lib.atoiSat s) (Lib.atoiAll s), []) else none
    | _, _ => none
  | _ => none
theorem below_grow (w : World) (k : Nat) (os : Array Obj) : Below w.heap.size w (grow (w.drewN k) os) := by
  refine ⟨rfl, rfl, rfl, by simp [grow, World.drewN], fun i hi => ?_⟩
  simp only [grow, World.drewN]
  rw [Array.getElem?_append_left hi]
theorem below_bytes (w : World) (e : TypeId) (s : ByteArray) : Below w.heap.size w (Lib.bytesWorld w e s) := by
  unfold Lib.bytesWorld
  refine ⟨?_, ?_, ?_, ?_, ?_⟩
  · unfold World.freeze; split <;> rfl
  · unfold World.freeze; split <;> rfl
  · unfold World.freeze; split <;> rfl
  · have h1 : ∀ (w : World) (a : Addr) (n : Nat), (w.freeze a n).heap.size = w.heap.size := by
      intro w a n; unfold World.freeze; split <;> simp
    rw [h1]
    have h2 := heap_alloc_self w.drew (.cells (Lib.bytesCells w e s) e)
    have h3 := (Array.getElem?_eq_some_iff.1 h2).1
    exact Nat.le_of_lt h3
  · intro k hk
    rw [freeze_other (by omega)]
    exact heap_alloc_lt w.drew _ (Nat.ne_of_lt hk)
theorem rep_end {nm : FuncId → Option Nat} {w : World} {L : LabF} {x : Int} {u : Value} (h : u = .nilIface ∨ ∃ t p, u = .iface t p) :
    RepV nm w L (fun _ => 0) (.h 0) (.tup [.one (.d (.int .i64 x)), .one (match u with | .nilIface => .nili | _ => .ifc)]) (.tuple #[.int .i64 x, u]) := by
  refine .tup rfl ?_ ?_
  · rcases h with rfl | ⟨t, p, rfl⟩ <;> rfl
  · intro i y z hy hz
    match i with
    | 0 => simp at hy hz; subst hy; subst hz; exact .one (.d (.plain .int))
    | 1 =>
      simp at hy hz; subst hy; subst hz
      rcases h with rfl | ⟨t, p, rfl⟩
      · exact .one .nili
      · exact .one .ifc
    | i + 2 => simp at hy
theorem primOk (G : Nat → Option Obj)
    (hpow : ∀ w L, GI G w L → Lib.TabIs Tryd.prog w pow10N .u64 Lib.pow10Tab)
    (hsyn : ∀ w L, GI G w L → ∃ tp p, w.var? Tryd.prog "strconv.ErrSyntax" = some #[.iface tp p])
    (hrng : ∀ w L, GI G w L → ∃ tp p, w.var? Tryd.prog "strconv.ErrRange" = some #[.iface tp p]) : PrimOk Tryd.prog nm G tab primT := by
  intro f vs bx r out fid hT hp hn args w L R hH hG hE
  obtain rfl : fid = f := by simpa [nm] using hn
  unfold primT at hp
  split at hp
  · split at hp
    · rename_i t x
      split at hp
      · rename_i ht
        have ht := Nat.eq_of_beq_eq_true ht
        subst ht
        simp only [Option.some.injEq, Prod.mk.injEq] at hp
        obtain ⟨rfl, rfl⟩ := hp
        exact copyCheck_ok (fun b w h1 h2 h3 => fnTo_calls Tryd.func52 (by kernel_rfl) rfl ((cc_fresh b w h1 h2 h3).mono (fun e w' h => ⟨_, h.1, rfl, h.2⟩)))
          (fun b w h1 => fnTo_calls Tryd.func52 (by kernel_rfl) rfl ((cc_used b w h1).mono (fun e w' h => ⟨_, h.1, rfl, h.2⟩))) R
      · cases hp
    · cases hp
  · split at hp
    · rename_i n m
      split at hp
      · rename_i hc
        simp only [Option.some.injEq, Prod.mk.injEq] at hp
        obtain ⟨rfl, rfl⟩ := hp
        obtain ⟨rfl, h0, h1⟩ := hc
        have ha := args_flat (xs := [.int .i64 n, .int .i64 10]) (bs := []) rfl R
        refine data_ok (Rv := fun u => u = .string ⟨(Lib.itoa n).toArray⟩) ?_ R ?_
        · rintro w L u rfl
          rw [itoaK_eq h0 h1]
          exact .one (.d (.plain .str))
        · rw [ha]
          refine fnTo_calls Tryd.func53 (by kernel_rfl) rfl ((Any.strconv_FormatInt_10 Tryd.laysM173 n h0 h1 w (hpow w L hG)).mono (fun e w' h => ⟨_, h.1, rfl, ?_⟩))
          obtain ⟨k, os, rfl⟩ := h.2
          exact below_grow w k os
      · cases hp
    · cases hp
  · split at hp
    · rename_i s m k
      split at hp
      · rename_i hc
        simp only [Option.some.injEq, Prod.mk.injEq] at hp
        obtain ⟨rfl, rfl⟩ := hp
        obtain ⟨rfl, rfl, hl⟩ := hc
        have ha := args_flat (xs := [.str s, .int .i64 10, .int .i64 64]) (bs := []) rfl R
        simp only [List.map_cons, List.map_nil, flatVal] at ha
        have hsz : (⟨s.toArray⟩ : ByteArray).size = s.length := by simp [ByteArray.size]
        obtain ⟨tp, p, hv1⟩ := hsyn w L hG
        obtain ⟨tp2, p2, hv2⟩ := hrng w L hG
        cases he : Lib.parseIntB 64 s with
        | ok x =>
          refine data_ok (Rv := fun u => u = .tuple #[.int .i64 x, .nilIface]) ?_ R ?_
          · rintro w L u rfl
            exact rep_end (.inl rfl)
          · rw [ha]
            refine fnTo_calls Tryd.func45 (by kernel_rfl) rfl ((Any.strconv_ParseInt_10_at64_ok Tryd.laysC174 ⟨s.toArray⟩ (by omega) x he w).mono (fun e w' h => ⟨_, h.1, rfl, ?_⟩))
            rcases h.2 with rfl | ⟨t, rfl⟩
            · exact Below.refl _ _
            · exact below_bytes w 5 t
        | range =>
          refine data_ok (Rv := fun u => ∃ t q, u = .tuple #[.int .i64 (Lib.intSat 64 s), .iface t q]) ?_ R ?_
          · rintro w L u ⟨t, q, rfl⟩
            exact rep_end (.inr ⟨t, q, rfl⟩)
          · rw [ha]
            refine fnTo_calls Tryd.func45 (by kernel_rfl) rfl ((Any.strconv_ParseInt_10_at64_range_var Tryd.laysC174 ⟨s.toArray⟩ (by omega) he tp2 p2 w hv2).mono (fun e w' h => ?_))
            obtain ⟨N, h1, _, _, h2⟩ := h
            exact ⟨_, h1, ⟨_, _, rfl⟩, h2⟩
        | _ =>
          refine data_ok (Rv := fun u => ∃ t q, u = .tuple #[.int .i64 0, .iface t q]) ?_ R ?_
          · rintro w L u ⟨t, q, rfl⟩
            exact rep_end (.inr ⟨t, q, rfl⟩)
          · rw [ha]
            refine fnTo_calls Tryd.func45 (by kernel_rfl) rfl ((Any.strconv_ParseInt_10_at64_syntax_var Tryd.laysC174 ⟨s.toArray⟩ (by omega) he tp p w hv1).mono (fun e w' h => ?_))
            obtain ⟨N, h1, _, _, h2⟩ := h
            exact ⟨_, h1, ⟨_, _, rfl⟩, h2⟩
      · cases hp
    · cases hp
  · split at hp
    · rename_i s
      split at hp
      · rename_i hc
        simp only [Option.some.injEq, Prod.mk.injEq] at hp
        obtain ⟨rfl, rfl⟩ := hp
        have hl := hc
        have ha := args_flat (xs := [.str s]) (bs := []) rfl R
        simp only [List.map_cons, List.map_nil, flatVal] at ha
        have hsz : (⟨s.toArray⟩ : ByteArray).size = s.length := by simp [ByteArray.size]
        obtain ⟨tp, p, hv1⟩ := hsyn w L hG
        obtain ⟨tp2, p2, hv2⟩ := hrng w L hG
        cases he : Lib.atoiAll s with
        | ok x =>
          refine data_ok (Rv := fun u => u = .tuple #[.int .i64 x, .nilIface]) ?_ R ?_
          · rintro w L u rfl
            exact rep_end (.inl rfl)
          · rw [ha]
            refine fnTo_calls Tryd.func50 (by kernel_rfl) rfl ((Any.strconv_Atoi_ok Tryd.laysC172 ⟨s.toArray⟩ (by omega) x he w).mono (fun e w' h => ⟨_, h.1, rfl, ?_⟩))
            rcases h.2 with rfl | ⟨t, rfl⟩
            · exact Below.refl _ _
            · exact below_bytes w 5 t
        | range =>
          refine data_ok (Rv := fun u => ∃ t q, u = .tuple #[.int .i64 (Lib.atoiSat s), .iface t q]) ?_ R ?_
          · rintro w L u ⟨t, q, rfl⟩
            exact rep_end (.inr ⟨t, q, rfl⟩)
          · rw [ha]
            refine fnTo_calls Tryd.func50 (by kernel_rfl) rfl ((Any.strconv_Atoi_range_var Tryd.laysC172 ⟨s.toArray⟩ (by omega) he tp2 p2 w hv2).mono (fun e w' h => ?_))
            obtain ⟨N, h1, _, _, h2⟩ := h
            exact ⟨_, h1, ⟨_, _, rfl⟩, h2⟩
        | _ =>
          refine data_ok (Rv := fun u => ∃ t q, u = .tuple #[.int .i64 0, .iface t q]) ?_ R ?_
          · rintro w L u ⟨t, q, rfl⟩
            exact rep_end (.inr ⟨t, q, rfl⟩)
          · rw [ha]
            refine fnTo_calls Tryd.func50 (by kernel_rfl) rfl ((Any.strconv_Atoi_syntax_var Tryd.laysC172 ⟨s.toArray⟩ (by omega) he tp p w hv1).mono (fun e w' h => ?_))
            obtain ⟨N, h1, _, _, h2⟩ := h
            exact ⟨_, h1, ⟨_, _, rfl⟩, h2⟩
      · cases hp
    · cases hp
  · cases hp
theorem primT_tab (f : Nat) (vs : List V) (bx : List (List C)) (r) (h : primT f vs bx = some r) : tab f = none := by
  unfold primT at h
  split at h
  · rfl
  · rfl
  · rfl
  · rfl
  · cases h
end Go.Proofs.YteaaelhndaijoaaDoor
