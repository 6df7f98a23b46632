/- PrinterTokens: for every list of terms and every root the law returns true and the arguments read as before; conditions: the row's own, with what it lists tied to the program's text. -/
import Derived.Test.YtaifamiafiefkaaGreatDoorPrim
import Derived.Test.YtaifamiafiefkaaGreatDoorPlain1
import Derived.Test.YtaifamiafiefkaaGreatDoorAbs10
import Derived.Test.YtaifamiafiefkaaGreatDoorCards
import Derived.Test.YtaifamiafiefkaaGreatDoorTie
import Derived.ProofKit
import Derived.Deep.DeepHandedRow
import Derived.Deep.DeepLaidRun
import Derived.Lib.LaidTab
import Derived.Stop.LaidErr
set_option maxRecDepth 100000
set_option linter.unusedVariables false
namespace Go.Proofs.YtaifamiafiefkaaGreatDoor.printerTokens
open Go Go.Abs Go.RowKit Go.Stop Go.ChangeShapes Go.WideShapes Go.ChangeAt
theorem own : ownKnob Tryz.prog.godebug = none := by kernel_rfl
theorem params : Tryz.f3.params.toList = [22, 3] := by kernel_rfl
def tsT : List TS := [.int .i64, .str, .int .i64, .str, .int .i64, .int .i64]
theorem types : tsAll Tryz.prog 20 [22, 3] = some [[.sl 6 tsT], [.int .i64]] := by kernel_rfl
theorem arg1 (r : List D) : argV Tryz.prog 22 r = .one (.d (r.headD .dead)) := by kernel_rfl
theorem arg2 (r : List D) : argV Tryz.prog 3 r = .one (.d (r.headD .dead)) := by kernel_rfl
theorem ok_int {x : D} {k : IntKind} (h : okD (.int k) x) : ∃ n, x = .int k n ∧ (Lit.int k n).wf = true := by
  cases x <;> simp only [okD] at h
  obtain ⟨rfl, h⟩ := h; exact ⟨_, rfl, h⟩
theorem ok_str {x : D} (h : okD .str x) : ∃ s, x = .str s := by
  cases x <;> simp only [okD] at h
  exact ⟨_, rfl⟩
theorem ok_sl {x : D} {sz : Nat} {ts : List TS} (h : okD (.sl sz ts) x) : ∃ b rows, x = .sl (.im b) sz rows ∧ (b = true → rows = []) ∧ ∀ r ∈ rows, okR ts r := by
  cases x with
  | sl t sz' rows =>
    cases t with
    | im b => simp only [okD] at h; obtain ⟨rfl, h1, h2⟩ := h; exact ⟨b, rows, rfl, h1, h2⟩
    | own => simp only [okD] at h
  | _ => simp only [okD] at h
theorem okR_cons {t : TS} {ts : List TS} {r : List D} (h : okR (t :: ts) r) : ∃ x r', r = x :: r' ∧ okD t x ∧ okR ts r' := by
  cases r with
  | nil => simp only [okR] at h
  | cons x r' => simp only [okR] at h; exact ⟨x, r', rfl, h.1, h.2⟩
theorem okR_nil {r : List D} (h : okR [] r) : r = [] := by
  cases r with
  | nil => rfl
  | cons => simp only [okR] at h
theorem wf_range {n : Int} (h : (Lit.int .i64 n).wf = true) : -9223372036854775808 ≤ n ∧ n ≤ 9223372036854775807 := by
  have h : (decide (IntKind.min .i64 ≤ n) && decide (n ≤ IntKind.max .i64)) = true := h
  rw [show IntKind.min .i64 = -9223372036854775808 by decide, show IntKind.max .i64 = 9223372036854775807 by decide] at h
  simpa using h
theorem ok_tr {r : List D} (h : okR tsT r) : ∃ t : TR, r = cR t ∧ inR t := by
  obtain ⟨x1, q1, rfl, k1, g1⟩ := okR_cons h
  obtain ⟨x2, q2, rfl, k2, g2⟩ := okR_cons g1
  obtain ⟨x3, q3, rfl, k3, g3⟩ := okR_cons g2
  obtain ⟨x4, q4, rfl, k4, g4⟩ := okR_cons g3
  obtain ⟨x5, q5, rfl, k5, g5⟩ := okR_cons g4
  obtain ⟨x6, q6, rfl, k6, g6⟩ := okR_cons g5
  obtain rfl := okR_nil g6
  obtain ⟨n1, rfl, w1⟩ := ok_int k1
  obtain ⟨n2, rfl⟩ := ok_str k2
  obtain ⟨n3, rfl, w3⟩ := ok_int k3
  obtain ⟨n4, rfl⟩ := ok_str k4
  obtain ⟨n5, rfl, w5⟩ := ok_int k5
  obtain ⟨n6, rfl, w6⟩ := ok_int k6
  exact ⟨⟨n1, n2, n3, n4, n5, n6⟩, rfl, wf_range w3⟩
theorem rows_tr : ∀ {rows : List (List D)}, (∀ r ∈ rows, okR tsT r) → ∃ l : List TR, rows = l.map cR ∧ ∀ t ∈ l, inR t
  | [], _ => ⟨[], rfl, fun t ht => by cases ht⟩
  | r :: rows, h => by
    obtain ⟨t, rfl, ht⟩ := ok_tr (h r (by simp))
    obtain ⟨l, rfl, hl⟩ := rows_tr (rows := rows) (fun r hr => h r (by simp [hr]))
    refine ⟨t :: l, rfl, fun x hx => ?_⟩
    rw [List.mem_cons] at hx
    rcases hx with rfl | hx
    · exact ht
    · exact hl x hx
def Eqn : Prop := ∀ (b : Bool) (l : List TR) (x : Int), (∀ t ∈ l, inR t) → ∃ N out, evN tab primT N 3 [.one (.d (.sl (.im b) 6 (l.map cR))), .one (.d (.int .i64 x))] [] = some (.one (.d (.bool true)), out)
theorem eqn (he : Eqn) (rs : List (List D)) (ho : okRs [[.sl 6 tsT], [.int .i64]] rs) :
    ∃ N out, evN tab primT N 3 (argVs Tryz.prog [22, 3] rs) [] = some (.one (.d (.bool true)), out) := by
  match rs, ho with
  | [r1, r3], ⟨h1, h3, _⟩ =>
    obtain ⟨x1, q1, rfl, k1, g1⟩ := okR_cons h1
    obtain rfl := okR_nil g1
    obtain ⟨b, rows, rfl, _, hrows⟩ := ok_sl k1
    obtain ⟨l, rfl, hl⟩ := rows_tr hrows
    obtain ⟨x3, q5, rfl, k5, g5⟩ := okR_cons h3
    obtain rfl := okR_nil g5
    obtain ⟨x, rfl, _⟩ := ok_int k5
    obtain ⟨N, out, h⟩ := he b l x hl
    refine ⟨N, out, ?_⟩
    simp only [argVs, arg1, arg2]
    exact h
theorem trodAll_len {H : Type} {enc : TypeId × Value → H} {P : Program} {W : World} {b : Nat} {sp : Nat → Bool} {hd : Bool} : ∀ {ts : List TypeId} {vs : List Value} {ds : List (DataW H)} {ps : List MemPlace}, DataW.TrodAll enc P W b sp hd ts vs ds ps → ds.length = ts.length
  | [], vs, ds, ps, h => by cases vs <;> cases ds <;> simp_all [DataW.TrodAll]
  | t :: ts, vs, ds, ps, h => by
    cases vs with
    | nil => simp [DataW.TrodAll] at h
    | cons v vs =>
      cases ds with
      | nil => simp [DataW.TrodAll] at h
      | cons d ds => obtain ⟨p, q, _, h2, _⟩ := h; simp [trodAll_len h2]
abbrev gSyn : Nat := 0
abbrev gRng : Nat := 1
abbrev gPow : Nat := 2
abbrev gB32 : Nat := 4
abbrev gB64 : Nat := 5
abbrev gPT : Nat := 176
abbrev gET : Nat := 178
def glob (W : World) : Nat → Option Obj := fun B => if B = gPow ∨ B = gSyn ∨ B = gRng then W.heap[B]? else none
theorem var_blk {P : Program} {w : World} {n : String} {g : Nat} {c : Array Value} (hg : P.globalNamed n = some g) (h : w.var? P n = some c) : ∃ t fz, w.heap[g]? = some (.cells c t fz) := by
  unfold World.var? at h
  rw [hg] at h
  simp only [Option.bind] at h
  split at h
  · rename_i cs t fz hh
    simp only [Option.some.injEq] at h
    subst h
    exact ⟨t, fz, hh⟩
  · cases h
theorem var_of {P : Program} {w : World} {n : String} {g : Nat} {c : Array Value} {t : TypeId} {fz : Nat × Nat} (hg : P.globalNamed n = some g) (h : w.heap[g]? = some (.cells c t fz)) : w.var? P n = some c := by
  unfold World.var?
  rw [hg]
  simp only [Option.bind, h]
theorem contract (he : Eqn) (H : Type) (enc : TypeId × Value → H) (W : World) (base : Nat) (args : Array Value) (ds gs : List (DataW H)) (before : List MemPlace)
    (hval : ∀ (j : Nat) t v, Tryz.f3.params[j]? = some t → args[j]? = some v → Value.okWide Tryz.prog W .any base t v)
    (hW : DataW.Whole enc Tryz.prog Tryz.f3.params.toList Rows.printerTokensSpec.vars false W args.toList ds gs before)
    (hpow : Lib.TabIs Tryz.prog W pow10N .u64 Lib.pow10Tab) (hsyn : ∃ tp p, W.var? Tryz.prog "strconv.ErrSyntax" = some #[.iface tp p]) (hrng : ∃ tp p, W.var? Tryz.prog "strconv.ErrRange" = some #[.iface tp p]) :
    Calls Tryz.prog 3 args W fun e W' => ∃ v, e = .returned v ∧ Rows.printerTokensSpec.post enc Tryz.prog Tryz.f3 false true false false W args v W' := by
  have hs : ∀ t ∈ Tryz.f3.params.toList, simpleT Tryz.prog 20 t = true := List.all_eq_true.1 (by kernel_rfl)
  have hW0 := hW
  obtain ⟨p, q, hA, hV, _⟩ := hW
  obtain ⟨tP, fP, bP⟩ := var_blk (g := gPow) (by kernel_rfl) hpow
  obtain ⟨s1, s2, hsyn⟩ := hsyn
  obtain ⟨r1, r2, hrng⟩ := hrng
  obtain ⟨tS, fS, bS⟩ := var_blk (g := gSyn) (by kernel_rfl) hsyn
  obtain ⟨tR, fR, bR⟩ := var_blk (g := gRng) (by kernel_rfl) hrng
  have hGl : ∀ B c, glob W B = some c → W.heap[B]? = some c ∧ ∃ cur e fz, c = .cells cur e fz := by
    intro B c h
    unfold glob at h
    split at h
    · rename_i hB
      refine ⟨h, ?_⟩
      rcases hB with rfl | rfl | rfl
      · rw [bP] at h; cases h; exact ⟨_, _, _, rfl⟩
      · rw [bS] at h; cases h; exact ⟨_, _, _, rfl⟩
      · rw [bR] at h; cases h; exact ⟨_, _, _, rfl⟩
    · cases h
  have gP : ∀ w L, GI (glob W) w L → Lib.TabIs Tryz.prog w pow10N .u64 Lib.pow10Tab := fun w L h =>
    var_of (g := gPow) (by kernel_rfl) (h gPow _ (by unfold glob; rw [if_pos (.inl rfl)]; exact bP)).2
  have gS : ∀ w L, GI (glob W) w L → ∃ tp p, w.var? Tryz.prog "strconv.ErrSyntax" = some #[.iface tp p] := fun w L h =>
    ⟨s1, s2, var_of (g := gSyn) (by kernel_rfl) (h gSyn _ (by unfold glob; rw [if_pos (.inr (.inl rfl))]; exact bS)).2⟩
  have gR : ∀ w L, GI (glob W) w L → ∃ tp p, w.var? Tryz.prog "strconv.ErrRange" = some #[.iface tp p] := fun w L h =>
    ⟨r1, r2, var_of (g := gRng) (by kernel_rfl) (h gRng _ (by unfold glob; rw [if_pos (.inr (.inr rfl))]; exact bR)).2⟩
  have hO : ∀ N, OSound Tryz.prog nm (glob W) (evN tab primT N) := fun N => evN_sound tabOk (primOk (glob W) gP gS gR) N
  refine (law_calls' (b := true) hO hGl (f0 := 3) rfl Tryz.func3 (by kernel_rfl) rfl hA hs (by rw [params]; exact types) (fun j t v h1 h2 => hval j t v (by simpa using h1) h2) (fun rs h1 h2 => by rw [params]; exact eqn he rs h2)).mono fun e W' ⟨he, hl⟩ => ⟨_, he, ?_⟩
  refine law_post hW0 rfl hs (tb := Tryz.f3.resultTypes.getD 0 0) (by kernel_rfl) (by kernel_rfl) ?_ ?_ ?_ hl
  all_goals
    have hlen : ds.length = 2 := (trodAll_len hA).trans (by kernel_rfl)
    obtain ⟨rfl, _⟩ := trodVars_none hV
    match ds, hlen with
    | [d1, d2], _ => rfl
noncomputable def low : Nat := (World.holding Tryz.prog default ⟨#[], #[], []⟩).heap.size
abbrev synS : ByteArray := { data := #[105, 110, 118, 97, 108, 105, 100, 32, 115, 121, 110, 116, 97, 120] }
abbrev rngS : ByteArray := { data := #[118, 97, 108, 117, 101, 32, 111, 117, 116, 32, 111, 102, 32, 114, 97, 110, 103, 101] }
def cellsL {H : Type} : DataW H → Array Value
  | .agg l => (l.map fun | .lit (.int k n) => Value.int k n | _ => .bool false).toArray
  | _ => #[]
def setB (w : World) (b : Nat) (c : Array Value) : World := { w with heap := w.heap.modify b fun | .cells _ t frozen => .cells c t frozen | o => o }
noncomputable def laidWorld (os : Os) : World :=
  setB (setB (setB (setB (setB (World.holding Tryz.prog os ⟨#[.cells #[.string synS] gET, .cells #[.string rngS] gET], #[], []⟩)
    gSyn #[.iface gPT (.pointer (some ⟨low, 0, none⟩))]) gRng #[.iface gPT (.pointer (some ⟨low + 1, 0, none⟩))])
    gPow (cellsL (Rows.laid_internal_strconv_uint64pow10 (H := Unit)))) gB32 (cellsL (Rows.laid_math_bits_deBruijn32tab (H := Unit)))) gB64 (cellsL (Rows.laid_math_bits_deBruijn64tab (H := Unit)))
theorem laid_met (os : Os) : laidMet Tryz.prog Rows.printerTokensRow.laid ((laidWorld os).forCall (fun _ _ => 0) ⟨#[], #[.slice none 0 0, .int .i64 0], []⟩).memory :=
  laidMet_of_run3 8 (by kernel_rfl) (by kernel_rfl) (by kernel_rfl)
theorem reads (os : Os) {H : Type} (enc : TypeId × Value → H) : ∃ places, DataW.whole enc Tryz.prog ((laidWorld os).forCall (fun _ _ => 0) ⟨#[], #[.slice none 0 0, .int .i64 0], []⟩).memory Tryz.f3.params.toList Rows.printerTokensSpec.vars false #[Value.slice none 0 0, Value.int .i64 0].toList 8 = some ([.nil, .lit (.int .i64 0)], [], places) :=
  ⟨[], by kernel_rfl⟩
theorem iface_of_trod {P : Program} {w : World} {b fuel : Nat} {sp : Nat → Bool} {hd : Bool} {ti : TypeId} {ms : Array (String × TypeId)} {cs : List Value} {nm : String} {d : DataW Unit} {p : List MemPlace}
    (hi : P.underlying ti = some (.interface ms)) (h : DataW.trod (fun _ => ()) P w b sp hd fuel ti cs = some (.iface nm d, p)) : ∃ u v, cs = [.iface u v] := by
  cases fuel with
  | zero => simp [DataW.trod] at h
  | succ fuel =>
    simp only [DataW.trod, hi] at h
    split at h <;> first
      | exact ⟨_, _, rfl⟩
      | (exfalso; simp_all; done)
      | (split at h <;> first | exact ⟨_, _, rfl⟩ | (exfalso; simp_all; done))
theorem sentinel {n nm : String} {d : DataW Unit} {r : List (String × DataW Unit)} {W : World} {g : Nat} {ti : TypeId} {ms : Array (String × TypeId)} (h : laidMet Tryz.prog ((n, .iface nm d) :: r) W)
    (hg : Tryz.prog.globalNamed n = some g) (ht : (Tryz.prog.globals[g]?).map (·.type) = some ti) (hi : Tryz.prog.underlying ti = some (.interface ms)) : ∃ tp p, W.var? Tryz.prog n = some #[.iface tp p] := by
  obtain ⟨ps, ⟨g0, t0, cs0, f0, p0, q0, hg0, ht0, hv0, hd0, _, e0⟩, _, hrows⟩ := h
  obtain rfl := Option.some.inj (hg.symm.trans hg0)
  obtain rfl := Option.some.inj (ht.symm.trans ht0)
  obtain ⟨l0⟩ := cs0
  obtain ⟨u, v, rfl⟩ := iface_of_trod hi hd0
  exact ⟨u, v, hv0⟩
def isIf : Option TypeDesc → Bool
  | some (.interface _) => true
  | _ => false
theorem isIf_of {o : Option TypeDesc} (h : isIf o = true) : ∃ ms, o = some (.interface ms) := by
  cases o with
  | none => cases h
  | some t => cases t <;> first | exact ⟨_, rfl⟩ | cases h
theorem globs {W : World} (h : laidMet Tryz.prog Rows.printerTokensRow.laid W) : Lib.TabIs Tryz.prog W pow10N .u64 Lib.pow10Tab ∧ (∃ tp p, W.var? Tryz.prog "strconv.ErrSyntax" = some #[.iface tp p]) ∧ (∃ tp p, W.var? Tryz.prog "strconv.ErrRange" = some #[.iface tp p]) := by
  have h2 := (h.tail).tail
  obtain ⟨ms, hi⟩ := isIf_of (o := Tryz.prog.underlying 77) (by kernel_rfl)
  exact ⟨Lib.tabIs_of_head (n := 20) (g := gPow) (t := 180) (e := 139) (by kernel_rfl) (by kernel_rfl) (by kernel_rfl) (by kernel_rfl) (by kernel_rfl) (by kernel_rfl) h2,
    sentinel (g := gSyn) (ti := 77) h2.tail.tail (by kernel_rfl) (by kernel_rfl) hi, sentinel (g := gRng) (ti := 77) h2.tail (by kernel_rfl) (by kernel_rfl) hi⟩
theorem lifted (he : Eqn) (os : Os) (started : os.Started) (H : Type) (enc : TypeId × Value → H) (F : Stop.Interp) :
    ReturnsInHanded {} Tryz.checked os 3 .any ((OpenSpec.ofChange Rows.printerTokensSpec).preRow enc Tryz.prog Tryz.f3 Rows.printerTokensRow.domain false Rows.printerTokensRow.laid) (((OpenSpec.ofChange Rows.printerTokensSpec).at F).post enc Tryz.prog Tryz.f3 false true false false) := by
  obtain ⟨places, hx⟩ := reads os enc
  refine returnsInHanded_of_row (C := Tryz.checked) (s := OpenSpec.ofChange Rows.printerTokensSpec) own started (by kernel_rfl) Tryz.func3
    (witness_row_at (enc := enc) (C := Tryz.checked) false (laidWorld os) #[.slice none 0 0, .int .i64 0] rfl (by kernel_rfl) (by kernel_rfl) (by kernel_rfl)
      (OpenSpec.preRow_of_cond 8 hx (by kernel_rfl) (fun k hk => by cases hk) (by kernel_rfl) (laid_met os))) ?_
  intro W base args ds gs before hval hW _ _ _ hL _ _
  obtain ⟨g1, g2, g3⟩ := globs hL
  exact contract he H enc W base args ds gs before hval hW g1 g2 g3
theorem said (he : Eqn) : Rows.PrinterTokensSaid :=
  OpenClaim.holds_of_cond 3 Tryz.f3 rfl rfl rfl rfl rfl rfl rfl ⟨rfl, rfl, rfl, rfl, rfl⟩ rfl rfl rfl rfl rfl (by kernel_rfl) Tryz.func3 (by kernel_rfl)
    (of_decide_eq_true (by kernel_rfl)) (by unfold Func.isWrapper; first | (rw [if_pos (by decide +kernel)]; kernel_rfl) | (rw [if_neg (by decide +kernel)]; exact ⟨rfl, rfl⟩))
    (fun os started H enc _ F => by rw [OpenClaim.pre_eq_preRow]; exact lifted he os started H enc F)
theorem plain (f : FuncId) (fn : Func) (hf : Tryz.pinned.checked.prog.funcNamed "repartee/reparteelaw16.PrinterTokens" = some f) (hfn : Tryz.pinned.checked.prog.funcs[f]? = some fn) :
    true = Tryz.pinned.checked.prog.looks [] ∧ ∀ (j : Nat) t, fn.params[j]? = some t → Tryz.pinned.checked.prog.wantsStandIn t = false := by
  obtain rfl : f = 3 := Option.some.inj ((show Tryz.prog.funcNamed "repartee/reparteelaw16.PrinterTokens" = some 3 by kernel_rfl).symm.trans hf) |>.symm
  obtain rfl : fn = Tryz.f3 := (Option.some.inj (Tryz.func3.symm.trans hfn)).symm
  refine ⟨by kernel_rfl, fun j t ht => ?_⟩
  have h3 : t ∈ Tryz.f3.params.toList := by
    have := Array.mem_of_getElem? ht
    simpa using this
  rw [params] at h3
  rcases List.mem_cons.1 h3 with rfl | h3
  · exact (show Tryz.prog.wantsStandIn 22 = false by kernel_rfl)
  · obtain rfl : t = 3 := by simpa using h3
    exact (show Tryz.prog.wantsStandIn 3 = false by kernel_rfl)
theorem card (he : Eqn) : Rows.PrinterTokensCardSaid :=
  Claim7.holds_tied_plain_at .later [] _ _ _ _ (said he) (fun _ h => by cases h) (by kernel_rfl) (fun _ h => by cases h) printerTokens_row_tie rfl ⟨rfl, rfl⟩ (by kernel_rfl) rfl plain (by kernel_rfl)
theorem eqn_holds : Eqn := fun b l x hl => by
  obtain ⟨N, h⟩ := law b l x hl
  unfold T at h
  exact ⟨N, [], h⟩
theorem proved : Rows.PrinterTokensCardSaid := card eqn_holds
end Go.Proofs.YtaifamiafiefkaaGreatDoor.printerTokens
