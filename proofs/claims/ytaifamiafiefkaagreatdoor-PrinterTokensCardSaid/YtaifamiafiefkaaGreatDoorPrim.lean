/- The functions that the law reaches as the evaluator takes them, and what they come to: printed by program. -/
import Derived.Test.YtaifamiafiefkaaGreatDoorCode
import Derived.Test.YtaifamiafiefkaaGreatDoorShelf
import Derived.Test.YtaifamiafiefkaaGreatDoorAbs10
import Derived.Test.YtaifamiafiefkaaGreatDoorRows
import Derived.KernelRfl
import Derived.Lib.Walk
import Derived.Lib.Builder
import Derived.Lib.UnsafeStr
import Derived.WalkKit
import Derived.Laws.Externs
import Derived.Lib.MakeNoZero
import Derived.Laws.IdiomCopy
set_option linter.unusedVariables false
set_option maxRecDepth 100000
namespace Go.Proofs.YtaifamiafiefkaaGreatDoor
open Go Go.Abs Go.RowKit Go.Proofs Go.Sort
set_option maxHeartbeats 1000000 in
theorem cc_used (b : Nat) (w : World) (h0 : w.cell? ⟨b, 0, none⟩ = some (.pointer (some ⟨b, 0, none⟩))) :
    Calls Tryz.prog 49 #[.pointer (some ⟨b, 0, none⟩)] w fun e w' => e = .returned (.tuple #[]) ∧ w' = w := by
  obtain ⟨j, hj⟩ : ∃ j, Tryz.prog.info? 66 = some j := Option.isSome_iff_exists.1 (by kernel_rfl)
  have hp : Tryz.prog.underlying 63 = some (.pointer 66) := by kernel_rfl
  go_enter Tryz.func49, Tryz.ntmps49
  go_wp2
  rw [Lib.run_neq_ptr_same w _ hp hj]
  go_wp2
  go_end0
  exact ⟨rfl, rfl⟩
set_option maxHeartbeats 1000000 in
theorem cc_fresh (b : Nat) (w : World) (h0 : w.cell? ⟨b, 0, none⟩ = some (.pointer none)) (hsh : w.shape? b = some (66, 2)) (hfz : w.frozen? ⟨b, 0, none⟩ = false) :
    Calls Tryz.prog 49 #[.pointer (some ⟨b, 0, none⟩)] w fun e w' => e = .returned (.tuple #[]) ∧ w' = w.setCell ⟨b, 0, none⟩ (.pointer (some ⟨b, 0, none⟩)) := by
  obtain ⟨j, hj, hjs⟩ : ∃ j, Tryz.prog.info? 66 = some j ∧ j.size = 2 := Option.map_eq_some_iff.1 (by kernel_rfl)
  have hp : Tryz.prog.underlying 63 = some (.pointer 66) := by kernel_rfl
  have hu : Tryz.prog.underlying 128 = some .unsafePointer := by kernel_rfl
  go_enter Tryz.func49, Tryz.ntmps49
  go_wp2
  rw [Lib.run_to_unsafe w ⟨b, 0, none⟩ hp hu hj (by rw [hjs]; decide) hsh (Nat.zero_lt_succ 1)]
  simp only [Result.andThen]
  rw [Oper.upon_value]
  go_wp2
  rw [run_callFunc_extern Tryz.func72 (by kernel_rfl) (by kernel_rfl) (by kernel_rfl) (e := Extern.AbiNoEscape.same) (by kernel_rfl)]
  rw [Lib.run_noEscape]
  simp only [Result.andThen]
  rw [Oper.upon_value]
  go_wp2
  rw [Lib.run_from_unsafe w ⟨b, 0, none⟩ hu hp hj hsh (by kernel_rfl)]
  simp only [Result.andThen]
  rw [Oper.upon_value]
  go_wp2
  go_end0
  exact ⟨rfl, rfl⟩
set_option maxHeartbeats 1000000 in
theorem grow_fresh (b : Nat) (w : World) (n : Nat) {T : TypeId} {p : Value} {fz : Nat × Nat} (hbk : w.heap[b]? = some (.cells #[p, .slice none 0 0] T fz)) (hfz : w.frozen? ⟨b, 1, none⟩ = false) (hn : n ≤ 281474976710656) :
    Calls Tryz.prog 96 #[.pointer (some ⟨b, 0, none⟩), .int .i64 n] w fun e w' => e = .returned (.tuple #[]) ∧ ∃ (k : Nat) (cs : Array Value), n ≤ cs.size ∧ w' = ((w.setCell ⟨b, 1, none⟩ (.slice (some ⟨w.heap.size, 0, none⟩) 0 cs.size)).alloc (.cells cs 5)).drewN k := by
  have hlt : b < w.heap.size := (Array.getElem?_eq_some_iff.1 hbk).1
  have ht37 : Tryz.prog.underlying 64 = some (.slice 5) := by kernel_rfl
  obtain ⟨cs, hrun, hle, hmax⟩ := Lib.run_makeNoZero (P := Tryz.prog) w.drew #[3] 64 5 ht37 n hn
  have hw : IntKind.i64.wrap (IntKind.i64.wrap 0 + (n : Int)) = n := by
    rw [IntKind.wrap_i64, IntKind.wrap_i64]
    omega
  have hcall : (callFunc 112 #[.int .i64 (IntKind.i64.wrap (IntKind.i64.wrap 0 + (n : Int)))]).run Tryz.prog w.drew = .ok (.value (.slice (some ⟨w.drew.heap.size, 0, none⟩) n cs.size)) (w.drew.drew.drew.alloc (.cells cs 5)) := by
    rw [hw, run_callFunc_extern Tryz.func112 (by kernel_rfl) (by kernel_rfl) (by kernel_rfl) (e := Extern.BytealgMakeNoZero.makeNoZero #[3] #[64]) (by kernel_rfl), hrun]
    rfl
  have c1 : w.drew.cell? ⟨b, 1, none⟩ = some (.slice none 0 0) := by
    have : w.drew.heap[b]? = _ := hbk
    rw [Lib.cell_of_heap this]; rfl
  have c2 : (w.alloc (.cells cs 5)).cell? ⟨b, 1, none⟩ = some (.slice none 0 0) := by
    have : (w.alloc (.cells cs 5)).heap[b]? = _ := (Lib.alloc_old w _ b hlt).trans hbk
    rw [Lib.cell_of_heap this]; rfl
  have f2 : (w.alloc (.cells cs 5)).frozen? ⟨b, 1, none⟩ = false := by
    rw [← hfz]
    simp only [World.frozen?, Lib.alloc_old w _ b hlt]
  have hsz : (Tryz.prog.info? 5).map (·.size) = some 1 := by kernel_rfl
  have hcopy : ∀ W : World, (Builtin.copy_ #[64, 64] 3 #[.slice (some ⟨w.heap.size, 0, none⟩) 0 cs.size, .slice none 0 0]).run Tryz.prog W = .ok (goInt 0) W :=
    fun W => run_copy_none W 64 64 3 5 _ _ 0 cs.size 0 0 ht37 hsz rfl
  have mixed : Tryz.prog.follows Departure.mixedOrders = true := by kernel_rfl
  clear hw
  go_enter Tryz.func96, Tryz.ntmps96
  go_wp2
  go_region_o
  all_goals (go_wp2; go_end0; first | exact ⟨rfl, 3, cs, hle, rfl⟩ | exact ⟨rfl, 2, cs, hle, rfl⟩ | exact ⟨rfl, 4, cs, hle, rfl⟩ | exact ⟨rfl, 5, cs, hle, rfl⟩)
theorem set_same {w : World} {b : Nat} {p q : Value} {T : TypeId} {fz : Nat × Nat} (hbk : w.heap[b]? = some (.cells #[p, q] T fz)) : (w.setCell ⟨b, 0, none⟩ p).heap = w.heap := by
  have hlt : b < w.heap.size := (Array.getElem?_eq_some_iff.1 hbk).1
  simp only [World.setCell]
  apply Array.ext
  · simp
  · intro i h1 h2
    simp only [Array.getElem_modify]
    split
    · rename_i he
      subst he
      rw [(Array.getElem?_eq_some_iff.1 hbk).2]
      simp
    · rfl
theorem heap_end {w W : World} {a : Addr} {v : Value} {o : Obj} (k : Nat) (h : W.heap = w.heap) : (((w.setCell a v).alloc o).drewN k).heap = (W.setCell a v).heap.push o := by
  have h2 : ((w.setCell a v).alloc o).heap = (w.setCell a v).heap.push o := by rw [← World.alloc_eq]
  show ((w.setCell a v).alloc o).heap = _
  rw [h2]
  show (w.heap.modify a.block _).push o = (W.heap.modify a.block _).push o
  rw [h]
def GrowEnd (b n : Nat) (w : World) (e : Ending) (w' : World) : Prop := e = .returned (.tuple #[]) ∧ ∃ cs : Array Value, n ≤ cs.size ∧ w'.os = w.os ∧ w'.tape = w.tape ∧ w'.output = w.output ∧
  w'.heap = ((w.setCell ⟨b, 0, none⟩ (.pointer (some ⟨b, 0, none⟩))).setCell ⟨b, 1, none⟩ (.slice (some ⟨w.heap.size, 0, none⟩) 0 cs.size)).heap.push (.cells cs 5)
set_option maxHeartbeats 1000000 in
theorem Grow_used (b n : Nat) (w : World) {fz : Nat × Nat} (hbk : w.heap[b]? = some (.cells #[.pointer (some ⟨b, 0, none⟩), .slice none 0 0] 66 fz)) (hfz : unfroz 2 fz) (hn1 : 1 ≤ n) (hn : n ≤ 140737488355328) :
    Calls Tryz.prog 75 #[.pointer (some ⟨b, 0, none⟩), .int .i64 n] w (GrowEnd b n w) := by
  have c0 : w.cell? ⟨b, 0, none⟩ = some (.pointer (some ⟨b, 0, none⟩)) := by rw [Lib.cell_of_heap hbk]; rfl
  have c1 : w.cell? ⟨b, 1, none⟩ = some (.slice none 0 0) := by rw [Lib.cell_of_heap hbk]; rfl
  have c1' : w.drew.cell? ⟨b, 1, none⟩ = some (.slice none 0 0) := c1
  have hf1 : w.frozen? ⟨b, 1, none⟩ = false := by
    have := hfz 1 (by omega)
    simp only [World.frozen?, hbk]
    simpa using this
  have mixed : Tryz.prog.follows Departure.mixedOrders = true := by kernel_rfl
  have hlt : ¬ (IntKind.i64.wrap (0 - 0) ≥ (n : Int)) := by rw [IntKind.wrap_i64]; omega
  have e1 : ∀ args w, (callFunc 49 args).run Tryz.prog w = .ok (.enter 49 args) w := enters_of Tryz.func49 (by kernel_rfl) rfl
  have e2 : ∀ args w, (callFunc 96 args).run Tryz.prog w = .ok (.enter 96 args) w := enters_of Tryz.func96 (by kernel_rfl) rfl
  go_enter Tryz.func75, Tryz.ntmps75
  go_wp2_with (go_at_fn 49; refine (cc_used b w c0).mono ?_; rintro e w' ⟨rfl, hw⟩; subst w')
  go_region_o
  all_goals go_wp2_with (go_at_fn 96; refine (grow_fresh b w.drew n hbk hf1 (by omega)).mono ?_; rintro e w' ⟨rfl, k, cs, hcs, rfl⟩)
  all_goals first
    | (exfalso; omega)
    | (go_end0; exact ⟨rfl, cs, hcs, rfl, rfl, rfl, heap_end (1 + k) (set_same hbk)⟩)
set_option maxHeartbeats 1000000 in
theorem Grow_fresh (b n : Nat) (w : World) {fz : Nat × Nat} (hbk : w.heap[b]? = some (.cells #[.pointer none, .slice none 0 0] 66 fz)) (hfz : unfroz 2 fz) (hn1 : 1 ≤ n) (hn : n ≤ 140737488355328) :
    Calls Tryz.prog 75 #[.pointer (some ⟨b, 0, none⟩), .int .i64 n] w (GrowEnd b n w) := by
  have hbk1 : (w.setCell ⟨b, 0, none⟩ (.pointer (some ⟨b, 0, none⟩))).heap[b]? = some (.cells #[.pointer (some ⟨b, 0, none⟩), .slice none 0 0] 66 fz) := by
    simp [World.setCell, Array.getElem?_modify, hbk]
  have c1 : (w.setCell ⟨b, 0, none⟩ (.pointer (some ⟨b, 0, none⟩))).cell? ⟨b, 1, none⟩ = some (.slice none 0 0) := by rw [Lib.cell_of_heap hbk1]; rfl
  have c1' : (w.setCell ⟨b, 0, none⟩ (.pointer (some ⟨b, 0, none⟩))).drew.cell? ⟨b, 1, none⟩ = some (.slice none 0 0) := c1
  have hf1 : (w.setCell ⟨b, 0, none⟩ (.pointer (some ⟨b, 0, none⟩))).frozen? ⟨b, 1, none⟩ = false := by
    have := hfz 1 (by omega)
    simp only [World.frozen?, hbk1]
    simpa using this
  have hf0 : w.frozen? ⟨b, 0, none⟩ = false := by
    have := hfz 0 (by omega)
    simp only [World.frozen?, hbk]
    simpa using this
  have mixed : Tryz.prog.follows Departure.mixedOrders = true := by kernel_rfl
  have hlt : ¬ (IntKind.i64.wrap (0 - 0) ≥ (n : Int)) := by rw [IntKind.wrap_i64]; omega
  have e1 : ∀ args w, (callFunc 49 args).run Tryz.prog w = .ok (.enter 49 args) w := enters_of Tryz.func49 (by kernel_rfl) rfl
  have e2 : ∀ args w, (callFunc 96 args).run Tryz.prog w = .ok (.enter 96 args) w := enters_of Tryz.func96 (by kernel_rfl) rfl
  go_enter Tryz.func75, Tryz.ntmps75
  go_wp2_with (go_at_fn 49; refine (cc_fresh b w (by rw [Lib.cell_of_heap hbk]; rfl) (by simp [World.shape?, hbk]) hf0).mono ?_; rintro e w' ⟨rfl, hw⟩; subst w')
  go_region_o
  all_goals go_wp2_with (go_at_fn 96; refine (grow_fresh b (w.setCell ⟨b, 0, none⟩ (.pointer (some ⟨b, 0, none⟩))).drew n hbk1 hf1 (by omega)).mono ?_; rintro e w' ⟨rfl, k, cs, hcs, rfl⟩)
  all_goals first
    | (exfalso; omega)
    | (go_end0; exact ⟨rfl, cs, hcs, rfl, rfl, rfl, heap_end (1 + k) rfl⟩)
def pow10N : String := (Rows.printerTokensRow.laid.map (·.1)).getD 2 default
def digs : Nat → Nat → List UInt8
  | 0, u => [UInt8.ofNat (48 + u)]
  | f + 1, u => if u < 10 then [UInt8.ofNat (48 + u)] else digs f (u / 10) ++ [UInt8.ofNat (48 + u % 10)]
theorem digs_eq : ∀ (f u : Nat), u < 10 ^ (f + 1) → digs f u = Lib.decDigits u
  | 0, u, h => by rw [Lib.decDigits, dif_pos (by simpa using h)]; rfl
  | f + 1, u, h => by
    rw [Lib.decDigits]
    simp only [digs]
    by_cases h1 : u < 10
    · rw [if_pos h1, dif_pos h1]
    · rw [if_neg h1, dif_neg h1, digs_eq f (u / 10) (by rw [Nat.pow_succ] at h; omega)]
def itoaK (n : Int) : List UInt8 := if n < 0 then 45 :: digs 19 n.natAbs else digs 19 n.toNat
theorem itoaK_eq {n : Int} (h0 : -9223372036854775808 ≤ n) (h1 : n ≤ 9223372036854775807) : itoaK n = Lib.itoa n := by
  unfold itoaK Lib.itoa
  by_cases h : n < 0
  · rw [if_pos h, if_pos h, digs_eq _ _ (by simp; omega)]
  · rw [if_neg h, if_neg h, digs_eq _ _ (by simp; omega)]
abbrev ofEnd (sat : Int) : Lib.NumEnd Int → V
  | .ok v => .tup [.one (.d (.int .i64 v)), .one .nili]
  | .range => .tup [.one (.d (.int .i64 sat)), .one .ifc]
  | _ => .tup [.one (.d (.int .i64 0)), .one .ifc]
def primT : Oracle := fun f vs bx => match f with
  | 49 => match vs, bx with
    | [.one (.ptr (.e 0) 0 0)], [[.bld t, x]] => match Nat.beq t 66 with
      | true => some (.tup [], [[.bld 66, x]])
      | false => none
    | _, _ => none
  | 61 => match vs, bx with
    | [.one (.d (.int .i64 n)), .one (.d (.int .i64 m))], [] => if m = 10 ∧ -9223372036854775808 ≤ n ∧ n ≤ 9223372036854775807 then some (.one (.d (.str (itoaK n))), []) else none
    | _, _ => none
  | 32 => match vs, bx with
    | [.one (.d (.str s)), .one (.d (.int .i64 m)), .one (.d (.int .i64 k))], [] => if m = 10 ∧ k = 64 ∧ s.length ≤ 281474976710656 then some (ofEnd (Lib.intSat 64 s) (Lib.parseIntB 64 s), []) else none
    | _, _ => none
  | 137 => match vs, bx with
    | [.one (.d (.str s)), .one (.d (.int .u8 c))], [] => some (.one (.d (.int .i64 (Lib.indexByte s c.toNat.toUInt8))), [])
    | _, _ => none
  | 75 => match vs, bx with
    | [.one (.ptr (.e 0) 0 0), .one (.d (.int .i64 n))], [[.bld t, .d (.sl (.im true) 1 [])]] => match Nat.beq t 66, decide (1 ≤ n ∧ n ≤ 140737488355328) with
      | true, true => some (.tup [], [[.bld 66, .d (.sl .own 1 [])]])
      | _, _ => none
    | _, _ => none
  | _ => none
theorem below_grow (w : World) (k : Nat) (os : Array Obj) : Below w.heap.size w (grow (w.drewN k) os) := by
  refine ⟨rfl, rfl, rfl, by simp [grow, World.drewN], fun i hi => ?_⟩
  simp only [grow, World.drewN]
  rw [Array.getElem?_append_left hi]
theorem below_bytes (w : World) (e : TypeId) (s : ByteArray) : Below w.heap.size w (Lib.bytesWorld w e s) := by
  unfold Lib.bytesWorld
  refine ⟨?_, ?_, ?_, ?_, ?_⟩
  · unfold World.freeze; split <;> rfl
  · unfold World.freeze; split <;> rfl
  · unfold World.freeze; split <;> rfl
  · have h1 : ∀ (w : World) (a : Addr) (n : Nat), (w.freeze a n).heap.size = w.heap.size := by
      intro w a n; unfold World.freeze; split <;> simp
    rw [h1]
    have h2 := heap_alloc_self w.drew (.cells (Lib.bytesCells w e s) e)
    have h3 := (Array.getElem?_eq_some_iff.1 h2).1
    exact Nat.le_of_lt h3
  · intro k hk
    rw [freeze_other (by omega)]
    exact heap_alloc_lt w.drew _ (Nat.ne_of_lt hk)
theorem rep_end {nm : FuncId → Option Nat} {w : World} {L : LabF} {x : Int} {u : Value} (h : u = .nilIface ∨ ∃ t p, u = .iface t p) :
    RepV nm w L (fun _ => 0) (.h 0) (.tup [.one (.d (.int .i64 x)), .one (match u with | .nilIface => .nili | _ => .ifc)]) (.tuple #[.int .i64 x, u]) := by
  refine .tup rfl ?_ ?_
  · rcases h with rfl | ⟨t, p, rfl⟩ <;> rfl
  · intro i y z hy hz
    match i with
    | 0 => simp at hy hz; subst hy; subst hz; exact .one (.d (.plain .int))
    | 1 =>
      simp at hy hz; subst hy; subst hz
      rcases h with rfl | ⟨t, p, rfl⟩
      · exact .one .nili
      · exact .one .ifc
    | i + 2 => simp at hy
theorem primOk (G : Nat → Option Obj)
    (hpow : ∀ w L, GI G w L → Lib.TabIs Tryz.prog w pow10N .u64 Lib.pow10Tab)
    (hsyn : ∀ w L, GI G w L → ∃ tp p, w.var? Tryz.prog "strconv.ErrSyntax" = some #[.iface tp p])
    (hrng : ∀ w L, GI G w L → ∃ tp p, w.var? Tryz.prog "strconv.ErrRange" = some #[.iface tp p]) : PrimOk Tryz.prog nm G tab primT := by
  intro f vs bx r out fid hT hp hn args w L R hH hG hE
  obtain rfl : fid = f := by simpa [nm] using hn
  unfold primT at hp
  split at hp
  · split at hp
    · rename_i t x
      split at hp
      · rename_i ht
        have ht := Nat.eq_of_beq_eq_true ht
        subst ht
        simp only [Option.some.injEq, Prod.mk.injEq] at hp
        obtain ⟨rfl, rfl⟩ := hp
        exact copyCheck_ok (fun b w h1 h2 h3 => fnTo_calls Tryz.func49 (by kernel_rfl) rfl ((cc_fresh b w h1 h2 h3).mono (fun e w' h => ⟨_, h.1, rfl, h.2⟩)))
          (fun b w h1 => fnTo_calls Tryz.func49 (by kernel_rfl) rfl ((cc_used b w h1).mono (fun e w' h => ⟨_, h.1, rfl, h.2⟩))) R
      · cases hp
    · cases hp
  · split at hp
    · rename_i n m
      split at hp
      · rename_i hc
        simp only [Option.some.injEq, Prod.mk.injEq] at hp
        obtain ⟨rfl, rfl⟩ := hp
        obtain ⟨rfl, h0, h1⟩ := hc
        have ha := args_flat (xs := [.int .i64 n, .int .i64 10]) (bs := []) rfl R
        refine data_ok (Rv := fun u => u = .string ⟨(Lib.itoa n).toArray⟩) ?_ R ?_
        · rintro w L u rfl
          rw [itoaK_eq h0 h1]
          exact .one (.d (.plain .str))
        · rw [ha]
          refine fnTo_calls Tryz.func61 (by kernel_rfl) rfl ((Any.strconv_FormatInt_10 Tryz.laysM173 n h0 h1 w (hpow w L hG)).mono (fun e w' h => ⟨_, h.1, rfl, ?_⟩))
          obtain ⟨k, os, rfl⟩ := h.2
          exact below_grow w k os
      · cases hp
    · cases hp
  · split at hp
    · rename_i s m k
      split at hp
      · rename_i hc
        simp only [Option.some.injEq, Prod.mk.injEq] at hp
        obtain ⟨rfl, rfl⟩ := hp
        obtain ⟨rfl, rfl, hl⟩ := hc
        have ha := args_flat (xs := [.str s, .int .i64 10, .int .i64 64]) (bs := []) rfl R
        simp only [List.map_cons, List.map_nil, flatVal] at ha
        have hsz : (⟨s.toArray⟩ : ByteArray).size = s.length := by simp [ByteArray.size]
        obtain ⟨tp, p, hv1⟩ := hsyn w L hG
        obtain ⟨tp2, p2, hv2⟩ := hrng w L hG
        cases he : Lib.parseIntB 64 s with
        | ok x =>
          refine data_ok (Rv := fun u => u = .tuple #[.int .i64 x, .nilIface]) ?_ R ?_
          · rintro w L u rfl
            exact rep_end (.inl rfl)
          · rw [ha]
            refine fnTo_calls Tryz.func32 (by kernel_rfl) rfl ((Any.strconv_ParseInt_10_at64_ok Tryz.laysC174 ⟨s.toArray⟩ (by omega) x he w).mono (fun e w' h => ⟨_, h.1, rfl, ?_⟩))
            rcases h.2 with rfl | ⟨t, rfl⟩
            · exact Below.refl _ _
            · exact below_bytes w 5 t
        | range =>
          refine data_ok (Rv := fun u => ∃ t q, u = .tuple #[.int .i64 (Lib.intSat 64 s), .iface t q]) ?_ R ?_
          · rintro w L u ⟨t, q, rfl⟩
            exact rep_end (.inr ⟨t, q, rfl⟩)
          · rw [ha]
            refine fnTo_calls Tryz.func32 (by kernel_rfl) rfl ((Any.strconv_ParseInt_10_at64_range_var Tryz.laysC174 ⟨s.toArray⟩ (by omega) he tp2 p2 w hv2).mono (fun e w' h => ?_))
            obtain ⟨N, h1, _, _, h2⟩ := h
            exact ⟨_, h1, ⟨_, _, rfl⟩, h2⟩
        | _ =>
          refine data_ok (Rv := fun u => ∃ t q, u = .tuple #[.int .i64 0, .iface t q]) ?_ R ?_
          · rintro w L u ⟨t, q, rfl⟩
            exact rep_end (.inr ⟨t, q, rfl⟩)
          · rw [ha]
            refine fnTo_calls Tryz.func32 (by kernel_rfl) rfl ((Any.strconv_ParseInt_10_at64_syntax_var Tryz.laysC174 ⟨s.toArray⟩ (by omega) he tp p w hv1).mono (fun e w' h => ?_))
            obtain ⟨N, h1, _, _, h2⟩ := h
            exact ⟨_, h1, ⟨_, _, rfl⟩, h2⟩
      · cases hp
    · cases hp
  · split at hp
    · rename_i s c
      simp only [Option.some.injEq, Prod.mk.injEq] at hp
      obtain ⟨rfl, rfl⟩ := hp
      have ha := args_flat (xs := [.str s, .int .u8 c]) (bs := []) rfl R
      refine data_ok (Rv := fun u => u = .int .i64 (Lib.indexByte s c.toNat.toUInt8)) ?_ R ?_
      · rintro w L u rfl
        exact .one (.d (.plain .int))
      · rw [ha]
        refine fnTo_calls Tryz.func137 (by kernel_rfl) rfl ((Any.stringslite_IndexByte Tryz.laysB217 ⟨s.toArray⟩ c w).mono (fun e w' h => ⟨_, h.1, by simp, by rw [h.2]; exact Below.refl _ _⟩))
    · cases hp
  · split at hp
    · rename_i n t
      split at hp
      · rename_i ht hc
        have ht := Nat.eq_of_beq_eq_true ht
        subst ht
        obtain ⟨h1, h2⟩ := of_decide_eq_true hc
        simp only [Option.some.injEq, Prod.mk.injEq] at hp
        obtain ⟨rfl, rfl⟩ := hp
        obtain ⟨k, rfl⟩ := Int.eq_ofNat_of_zero_le (show 0 ≤ n by omega)
        refine grow_ok (n := k) (by omega) ?_ hH R
        intro b w p fz g1 g2 g3
        rcases g3 with rfl | rfl
        · exact fnTo_calls Tryz.func75 (by kernel_rfl) rfl ((Grow_fresh b k w g1 g2 (by omega) (by omega)).mono (fun e w' h => ⟨_, h.1, rfl, h.2⟩))
        · exact fnTo_calls Tryz.func75 (by kernel_rfl) rfl ((Grow_used b k w g1 g2 (by omega) (by omega)).mono (fun e w' h => ⟨_, h.1, rfl, h.2⟩))
      · cases hp
    · cases hp
  · cases hp
end Go.Proofs.YtaifamiafiefkaaGreatDoor
