/- The text of a protocol and of a local type is parsed as the same points and turns: for every input. -/
import Derived.Test.YtamcbchinhdniaaGreatDoorPrim
import Derived.Test.YtamcbchinhdniaaGreatDoorPlain1
import Derived.Test.YtamcbchinhdniaaGreatDoorAbs9
import Derived.Test.YtamcbchinhdniaaGreatDoorCards
import Derived.Test.YtamcbchinhdniaaGreatDoorTie
import Derived.ProofKit
import Derived.Deep.DeepHandedRow
import Derived.Deep.DeepLaidRun
import Derived.Lib.LaidTab
import Derived.Stop.LaidErr
set_option maxRecDepth 100000
set_option linter.unusedVariables false
namespace Go.Proofs.YtamcbchinhdniaaGreatDoor.parseTypes
open Go Go.Abs Go.RowKit Go.Stop Go.ChangeShapes Go.WideShapes Go.ChangeAt
theorem own : ownKnob Tryz.prog.godebug = none := by kernel_rfl
theorem params : Tryz.f3.params.toList = [22, 22] := by kernel_rfl
theorem types : tsAll Tryz.prog 20 [22, 22] = some [[.sl 1 [.int .i64]], [.sl 1 [.int .i64]]] := by kernel_rfl
theorem arg1 (r : List D) : argV Tryz.prog 22 r = .one (.d (r.headD .dead)) := by kernel_rfl
theorem ok_int {x : D} {k : IntKind} (h : okD (.int k) x) : ∃ n, x = .int k n ∧ (Lit.int k n).wf = true := by
  cases x <;> simp only [okD] at h
  obtain ⟨rfl, h⟩ := h; exact ⟨_, rfl, h⟩
theorem ok_sl {x : D} {sz : Nat} {ts : List TS} (h : okD (.sl sz ts) x) : ∃ b rows, x = .sl (.im b) sz rows ∧ (b = true → rows = []) ∧ ∀ r ∈ rows, okR ts r := by
  cases x with
  | sl t sz' rows =>
    cases t with
    | im b => simp only [okD] at h; obtain ⟨rfl, h1, h2⟩ := h; exact ⟨b, rows, rfl, h1, h2⟩
    | own => simp only [okD] at h
  | _ => simp only [okD] at h
theorem okR_cons {t : TS} {ts : List TS} {r : List D} (h : okR (t :: ts) r) : ∃ x r', r = x :: r' ∧ okD t x ∧ okR ts r' := by
  cases r with
  | nil => simp only [okR] at h
  | cons x r' => simp only [okR] at h; exact ⟨x, r', rfl, h.1, h.2⟩
theorem okR_nil {r : List D} (h : okR [] r) : r = [] := by
  cases r with
  | nil => rfl
  | cons => simp only [okR] at h
theorem rows_ints : ∀ {rows : List (List D)}, (∀ r ∈ rows, okR [.int .i64] r) → ∃ l : List Int, rows = l.map encI
  | [], _ => ⟨[], rfl⟩
  | r :: rows, h => by
    obtain ⟨x, q, rfl, k1, g1⟩ := okR_cons (h r (by simp))
    obtain rfl := okR_nil g1
    obtain ⟨n, rfl, _⟩ := ok_int k1
    obtain ⟨l, rfl⟩ := rows_ints (rows := rows) (fun r hr => h r (by simp [hr]))
    exact ⟨n :: l, rfl⟩
theorem mapM_len {α β : Type} {f : α → Option β} : ∀ {xs : List α} {ys : List β}, xs.mapM f = some ys → ys.length = xs.length
  | [], ys, h => by
    have : ys = [] := by simpa using h.symm
    rw [this]; rfl
  | x :: xs, ys, h => by
    rw [List.mapM_cons] at h
    cases hf : f x with
    | none => rw [hf] at h; cases h
    | some y =>
      cases hm : xs.mapM f with
      | none => rw [hf, hm] at h; cases h
      | some zs =>
        rw [hf, hm] at h
        cases h
        simp [mapM_len hm]
theorem row_len {H : Type} {n : Nat} {d : DataW H} {t : Tag} {rows : List (List D)} (h : dataOf Tryz.prog (n + 1) 22 d = some [.sl t 1 rows]) (hw : ∀ x ∈ d.weights Tryz.prog 22, x ≤ reachBytes) : rows.length ≤ 17592186044416 := by
  have hu : Tryz.prog.underlying 22 = some (.slice 3) := by kernel_rfl
  have hb : Tryz.prog.bytesOf 3 = 8 := by kernel_rfl
  unfold dataOf at h
  rw [hu] at h
  cases d with
  | nil =>
    simp only [Option.some.injEq, List.cons.injEq, D.sl.injEq] at h
    rw [← h.1.2.2]; exact Nat.zero_le _
  | slice elems spare =>
    simp only at h
    cases hm : elems.mapM (dataOf Tryz.prog n 3) with
    | none => rw [hm] at h; cases h
    | some rs =>
      rw [hm] at h
      simp only [Option.map_some, Option.some.injEq, List.cons.injEq, D.sl.injEq] at h
      have hl := mapM_len hm
      have h8 := hw ((elems.length + spare.length) * Tryz.prog.bytesOf 3) (by
        unfold DataW.weights
        rw [hu]
        exact List.mem_cons_self ..)
      rw [hb] at h8
      unfold reachBytes at h8
      rw [← h.1.2.2, hl]
      omega
  | _ => simp at h
theorem two {H : Type} {n : Nat} {t u : TypeId} {ds : List (DataW H)} {r1 r2 : List D} (h : dataAll Tryz.prog n [t, u] ds = some [r1, r2]) : ∃ d1 d2, ds = [d1, d2] ∧ dataOf Tryz.prog n t d1 = some r1 ∧ dataOf Tryz.prog n u d2 = some r2 := by
  cases ds with
  | nil => cases h
  | cons d1 ds =>
    simp only [dataAll] at h
    obtain ⟨a, h1, h2⟩ := bind_some h
    obtain ⟨b, h3, h4⟩ := map_some' h2
    cases h4
    cases ds with
    | nil => cases h3
    | cons d2 ds =>
      simp only [dataAll] at h3
      obtain ⟨a2, h5, h6⟩ := bind_some h3
      obtain ⟨b2, h7, h8⟩ := map_some' h6
      cases h8
      cases ds with
      | nil => exact ⟨d1, d2, rfl, h1, h5⟩
      | cons d3 ds => cases h7
theorem eqn {H : Type} (ds : List (DataW H)) (hw : ∀ x ∈ DataW.weightsEach Tryz.prog [22, 22] ds, x ≤ reachBytes) (rs : List (List D)) (hd : dataAll Tryz.prog 20 [22, 22] ds = some rs) (ho : okRs [[.sl 1 [.int .i64]], [.sl 1 [.int .i64]]] rs) :
    ∃ N out, evN tab primT N 3 (argVs Tryz.prog [22, 22] rs) [] = some (.one (.d (.bool true)), out) := by
  match rs, ho with
  | [r1, r3], ⟨h1, h3, _⟩ =>
    obtain ⟨d1, d2, rfl, e1, e2⟩ := two hd
    obtain ⟨x1, q1, rfl, k1, g1⟩ := okR_cons h1
    obtain rfl := okR_nil g1
    obtain ⟨b1, rows1, rfl, _, hr1⟩ := ok_sl k1
    obtain ⟨x3, q5, rfl, k5, g5⟩ := okR_cons h3
    obtain rfl := okR_nil g5
    obtain ⟨b2, rows2, rfl, _, hr2⟩ := ok_sl k5
    have w1 := row_len e1 fun x hx => hw x (by simp [DataW.weightsEach, hx])
    have w2 := row_len e2 fun x hx => hw x (by simp [DataW.weightsEach, hx])
    obtain ⟨l1, rfl⟩ := rows_ints hr1
    obtain ⟨l2, rfl⟩ := rows_ints hr2
    rw [List.length_map] at w1 w2
    refine ⟨3001, [], ?_⟩
    simp only [argVs, arg1]
    have := law_ok (m := 3000) (Nat.le_refl _) b1 b2 l1 l2 w1 w2
    unfold T at this
    exact this
theorem trodAll_len {H : Type} {enc : TypeId × Value → H} {P : Program} {W : World} {b : Nat} {sp : Nat → Bool} {hd : Bool} : ∀ {ts : List TypeId} {vs : List Value} {ds : List (DataW H)} {ps : List MemPlace}, DataW.TrodAll enc P W b sp hd ts vs ds ps → ds.length = ts.length
  | [], vs, ds, ps, h => by cases vs <;> cases ds <;> simp_all [DataW.TrodAll]
  | t :: ts, vs, ds, ps, h => by
    cases vs with
    | nil => simp [DataW.TrodAll] at h
    | cons v vs =>
      cases ds with
      | nil => simp [DataW.TrodAll] at h
      | cons d ds => obtain ⟨p, q, _, h2, _⟩ := h; simp [trodAll_len h2]
abbrev gPow : Nat := 0
abbrev gSyn : Nat := 2
abbrev gRng : Nat := 3
abbrev gB32 : Nat := 4
abbrev gB64 : Nat := 5
abbrev gPT : Nat := 177
abbrev gET : Nat := 179
def glob (W : World) : Nat → Option Obj := fun B => if B = gSyn ∨ B = gRng then W.heap[B]? else none
theorem var_blk {P : Program} {w : World} {n : String} {g : Nat} {c : Array Value} (hg : P.globalNamed n = some g) (h : w.var? P n = some c) : ∃ t fz, w.heap[g]? = some (.cells c t fz) := by
  unfold World.var? at h
  rw [hg] at h
  simp only [Option.bind] at h
  split at h
  · rename_i cs t fz hh
    simp only [Option.some.injEq] at h
    subst h
    exact ⟨t, fz, hh⟩
  · cases h
theorem var_of {P : Program} {w : World} {n : String} {g : Nat} {c : Array Value} {t : TypeId} {fz : Nat × Nat} (hg : P.globalNamed n = some g) (h : w.heap[g]? = some (.cells c t fz)) : w.var? P n = some c := by
  unfold World.var?
  rw [hg]
  simp only [Option.bind, h]
theorem contract (H : Type) (enc : TypeId × Value → H) (W : World) (base : Nat) (args : Array Value) (ds gs : List (DataW H)) (before : List MemPlace)
    (hval : ∀ (j : Nat) t v, Tryz.f3.params[j]? = some t → args[j]? = some v → Value.okWide Tryz.prog W .any base t v)
    (hW : DataW.Whole enc Tryz.prog Tryz.f3.params.toList Rows.parseTypesSpec.vars false W args.toList ds gs before)
    (hwt : ∀ x ∈ DataW.weightsEach Tryz.prog [22, 22] ds, x ≤ reachBytes) (hsyn : ∃ tp p, W.var? Tryz.prog "strconv.ErrSyntax" = some #[.iface tp p]) (hrng : ∃ tp p, W.var? Tryz.prog "strconv.ErrRange" = some #[.iface tp p]) :
    Calls Tryz.prog 3 args W fun e W' => ∃ v, e = .returned v ∧ Rows.parseTypesSpec.post enc Tryz.prog Tryz.f3 false true false false W args v W' := by
  have hs : ∀ t ∈ Tryz.f3.params.toList, simpleT Tryz.prog 20 t = true := List.all_eq_true.1 (by kernel_rfl)
  have hW0 := hW
  obtain ⟨p, q, hA, hV, _⟩ := hW
  obtain ⟨s1, s2, hsyn⟩ := hsyn
  obtain ⟨r1, r2, hrng⟩ := hrng
  obtain ⟨tS, fS, bS⟩ := var_blk (g := gSyn) (by kernel_rfl) hsyn
  obtain ⟨tR, fR, bR⟩ := var_blk (g := gRng) (by kernel_rfl) hrng
  have hGl : ∀ B c, glob W B = some c → W.heap[B]? = some c ∧ ∃ cur e fz, c = .cells cur e fz := by
    intro B c h
    unfold glob at h
    split at h
    · rename_i hB
      refine ⟨h, ?_⟩
      rcases hB with rfl | rfl
      · rw [bS] at h; cases h; exact ⟨_, _, _, rfl⟩
      · rw [bR] at h; cases h; exact ⟨_, _, _, rfl⟩
    · cases h
  have gS : ∀ w L, GI (glob W) w L → ∃ tp p, w.var? Tryz.prog "strconv.ErrSyntax" = some #[.iface tp p] := fun w L h =>
    ⟨s1, s2, var_of (g := gSyn) (by kernel_rfl) (h gSyn _ (by unfold glob; rw [if_pos (.inl rfl)]; exact bS)).2⟩
  have gR : ∀ w L, GI (glob W) w L → ∃ tp p, w.var? Tryz.prog "strconv.ErrRange" = some #[.iface tp p] := fun w L h =>
    ⟨r1, r2, var_of (g := gRng) (by kernel_rfl) (h gRng _ (by unfold glob; rw [if_pos (.inr rfl)]; exact bR)).2⟩
  have hO : ∀ N, OSound Tryz.prog nm (glob W) (evN tab primT N) := fun N => evN_sound tabOk (primOk (glob W) gS gR) N
  refine (law_calls' (b := true) hO hGl (f0 := 3) rfl Tryz.func3 (by kernel_rfl) rfl hA hs (by rw [params]; exact types) (fun j t v h1 h2 => hval j t v (by simpa using h1) h2) (fun rs h1 h2 => by rw [params] at h1 ⊢; exact eqn ds hwt rs h1 h2)).mono fun e W' ⟨hq, hl⟩ => ⟨_, hq, ?_⟩
  refine law_post hW0 rfl hs (tb := Tryz.f3.resultTypes.getD 0 0) (by kernel_rfl) (by kernel_rfl) ?_ ?_ ?_ hl
  all_goals
    have hlen : ds.length = 2 := (trodAll_len hA).trans (by kernel_rfl)
    obtain ⟨rfl, _⟩ := trodVars_none hV
    match ds, hlen with
    | [d1, d2], _ => rfl
noncomputable def low : Nat := (World.holding Tryz.prog default ⟨#[], #[], []⟩).heap.size
abbrev synS : ByteArray := { data := #[105, 110, 118, 97, 108, 105, 100, 32, 115, 121, 110, 116, 97, 120] }
abbrev rngS : ByteArray := { data := #[118, 97, 108, 117, 101, 32, 111, 117, 116, 32, 111, 102, 32, 114, 97, 110, 103, 101] }
def cellsL {H : Type} : DataW H → Array Value
  | .agg l => (l.map fun | .lit (.int k n) => Value.int k n | _ => .bool false).toArray
  | _ => #[]
def setB (w : World) (b : Nat) (c : Array Value) : World := { w with heap := w.heap.modify b fun | .cells _ t frozen => .cells c t frozen | o => o }
noncomputable def laidWorld (os : Os) : World :=
  setB (setB (setB (setB (setB (World.holding Tryz.prog os ⟨#[.cells #[.string synS] gET, .cells #[.string rngS] gET], #[], []⟩)
    gSyn #[.iface gPT (.pointer (some ⟨low, 0, none⟩))]) gRng #[.iface gPT (.pointer (some ⟨low + 1, 0, none⟩))])
    gPow (cellsL (Rows.laid_internal_strconv_uint64pow10 (H := Unit)))) gB32 (cellsL (Rows.laid_math_bits_deBruijn32tab (H := Unit)))) gB64 (cellsL (Rows.laid_math_bits_deBruijn64tab (H := Unit)))
theorem laid_met (os : Os) : laidMet Tryz.prog Rows.parseTypesRow.laid ((laidWorld os).forCall (fun _ _ => 0) ⟨#[], #[.slice none 0 0, .slice none 0 0], []⟩).memory :=
  laidMet_of_run3 8 (by kernel_rfl) (by kernel_rfl) (by kernel_rfl)
theorem reads (os : Os) {H : Type} (enc : TypeId × Value → H) : ∃ places, DataW.whole enc Tryz.prog ((laidWorld os).forCall (fun _ _ => 0) ⟨#[], #[.slice none 0 0, .slice none 0 0], []⟩).memory Tryz.f3.params.toList Rows.parseTypesSpec.vars false #[Value.slice none 0 0, Value.slice none 0 0].toList 8 = some ([.nil, .nil], [], places) :=
  ⟨[], by kernel_rfl⟩
theorem iface_of_trod {P : Program} {w : World} {b fuel : Nat} {sp : Nat → Bool} {hd : Bool} {ti : TypeId} {ms : Array (String × TypeId)} {cs : List Value} {nm : String} {d : DataW Unit} {p : List MemPlace}
    (hi : P.underlying ti = some (.interface ms)) (h : DataW.trod (fun _ => ()) P w b sp hd fuel ti cs = some (.iface nm d, p)) : ∃ u v, cs = [.iface u v] := by
  cases fuel with
  | zero => simp [DataW.trod] at h
  | succ fuel =>
    simp only [DataW.trod, hi] at h
    split at h <;> first
      | exact ⟨_, _, rfl⟩
      | (exfalso; simp_all; done)
      | (split at h <;> first | exact ⟨_, _, rfl⟩ | (exfalso; simp_all; done))
theorem sentinel {n nm : String} {d : DataW Unit} {r : List (String × DataW Unit)} {W : World} {g : Nat} {ti : TypeId} {ms : Array (String × TypeId)} (h : laidMet Tryz.prog ((n, .iface nm d) :: r) W)
    (hg : Tryz.prog.globalNamed n = some g) (ht : (Tryz.prog.globals[g]?).map (·.type) = some ti) (hi : Tryz.prog.underlying ti = some (.interface ms)) : ∃ tp p, W.var? Tryz.prog n = some #[.iface tp p] := by
  obtain ⟨ps, ⟨g0, t0, cs0, f0, p0, q0, hg0, ht0, hv0, hd0, _, e0⟩, _, hrows⟩ := h
  obtain rfl := Option.some.inj (hg.symm.trans hg0)
  obtain rfl := Option.some.inj (ht.symm.trans ht0)
  obtain ⟨l0⟩ := cs0
  obtain ⟨u, v, rfl⟩ := iface_of_trod hi hd0
  exact ⟨u, v, hv0⟩
def isIf : Option TypeDesc → Bool
  | some (.interface _) => true
  | _ => false
theorem isIf_of {o : Option TypeDesc} (h : isIf o = true) : ∃ ms, o = some (.interface ms) := by
  cases o with
  | none => cases h
  | some t => cases t <;> first | exact ⟨_, rfl⟩ | cases h
theorem globs {W : World} (h : laidMet Tryz.prog Rows.parseTypesRow.laid W) : (∃ tp p, W.var? Tryz.prog "strconv.ErrSyntax" = some #[.iface tp p]) ∧ (∃ tp p, W.var? Tryz.prog "strconv.ErrRange" = some #[.iface tp p]) := by
  have h2 := (h.tail).tail
  obtain ⟨ms, hi⟩ := isIf_of (o := Tryz.prog.underlying 91) (by kernel_rfl)
  exact ⟨sentinel (g := gSyn) (ti := 91) h2.tail.tail (by kernel_rfl) (by kernel_rfl) hi, sentinel (g := gRng) (ti := 91) h2.tail (by kernel_rfl) (by kernel_rfl) hi⟩
theorem lifted (os : Os) (started : os.Started) (H : Type) (enc : TypeId × Value → H) (F : Stop.Interp) :
    ReturnsInHanded {} Tryz.checked os 3 .any ((OpenSpec.ofChange Rows.parseTypesSpec).preRow enc Tryz.prog Tryz.f3 Rows.parseTypesRow.domain false Rows.parseTypesRow.laid) (((OpenSpec.ofChange Rows.parseTypesSpec).at F).post enc Tryz.prog Tryz.f3 false true false false) := by
  obtain ⟨places, hx⟩ := reads os enc
  refine returnsInHanded_of_row (C := Tryz.checked) (s := OpenSpec.ofChange Rows.parseTypesSpec) own started (by kernel_rfl) Tryz.func3
    (witness_row_at (enc := enc) (C := Tryz.checked) false (laidWorld os) #[.slice none 0 0, .slice none 0 0] rfl (by kernel_rfl) (by kernel_rfl) (by kernel_rfl)
      (OpenSpec.preRow_of_cond 8 hx (by kernel_rfl) (fun k hk => by cases hk) (by kernel_rfl) (laid_met os))) ?_
  intro W base args ds gs before hval hW _ _ hwt hL _ _
  obtain ⟨g1, g2⟩ := globs hL
  have hgs : gs = [] := by
    obtain ⟨p, q, _, hV, _⟩ := hW
    exact (trodVars_none hV).1
  subst hgs
  refine contract H enc W base args ds [] before hval hW (fun x hx => ?_) g1 g2
  rw [List.all_eq_true] at hwt
  have := hwt x (by rw [params, List.append_nil]; exact hx)
  simpa using this
theorem said : Rows.ParseTypesSaid :=
  OpenClaim.holds_of_cond 3 Tryz.f3 rfl rfl rfl rfl rfl rfl rfl ⟨rfl, rfl, rfl, rfl, rfl⟩ rfl rfl rfl rfl rfl (by kernel_rfl) Tryz.func3 (by kernel_rfl)
    (of_decide_eq_true (by kernel_rfl)) (by unfold Func.isWrapper; first | (rw [if_pos (by decide +kernel)]; kernel_rfl) | (rw [if_neg (by decide +kernel)]; exact ⟨rfl, rfl⟩))
    (fun os started H enc _ F => by rw [OpenClaim.pre_eq_preRow]; exact lifted os started H enc F)
theorem plain (f : FuncId) (fn : Func) (hf : Tryz.pinned.checked.prog.funcNamed "repartee/reparteelaw17.ParseTypes" = some f) (hfn : Tryz.pinned.checked.prog.funcs[f]? = some fn) :
    true = Tryz.pinned.checked.prog.looks [] ∧ ∀ (j : Nat) t, fn.params[j]? = some t → Tryz.pinned.checked.prog.wantsStandIn t = false := by
  obtain rfl : f = 3 := Option.some.inj ((show Tryz.prog.funcNamed "repartee/reparteelaw17.ParseTypes" = some 3 by kernel_rfl).symm.trans hf) |>.symm
  obtain rfl : fn = Tryz.f3 := (Option.some.inj (Tryz.func3.symm.trans hfn)).symm
  refine ⟨by kernel_rfl, fun j t ht => ?_⟩
  have h3 : t ∈ Tryz.f3.params.toList := by
    have := Array.mem_of_getElem? ht
    simpa using this
  rw [params] at h3
  have : t = 22 := by simpa using h3
  subst this
  exact (show Tryz.prog.wantsStandIn 22 = false by kernel_rfl)
theorem proved : Rows.ParseTypesCardSaid :=
  Claim7.holds_tied_plain_at .later [] _ _ _ _ said (fun _ h => by cases h) (by kernel_rfl) (fun _ h => by cases h) parseTypes_row_tie rfl ⟨rfl, rfl⟩ (by kernel_rfl) rfl plain (by kernel_rfl)
end Go.Proofs.YtamcbchinhdniaaGreatDoor.parseTypes
