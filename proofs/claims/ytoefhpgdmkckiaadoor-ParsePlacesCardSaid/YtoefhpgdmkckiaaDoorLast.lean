/- The claim: the tied card of reparteelaw17.ParsePlaces: it answers true at every input, and its arguments read behind the call as before; its listed variables are tied to the text (none of them is read). No further condition. -/
import Derived.Test.YtoefhpgdmkckiaaDoorPlain
import Derived.Test.YtoefhpgdmkckiaaDoorAbs9
import Derived.Test.YtoefhpgdmkckiaaDoorCards
import Derived.Test.YtoefhpgdmkckiaaDoorTie
import Derived.ProofKit
import Derived.Deep.DeepHandedRow
import Derived.Deep.DeepLaidRun
set_option maxRecDepth 100000
set_option linter.unusedVariables false
namespace Go.Proofs.YtoefhpgdmkckiaaDoor.parsePlaces
open Go Go.Abs Go.ChangeShapes Go.WideShapes Go.ChangeAt

theorem own : ownKnob Tryd.prog.godebug = none := by kernel_rfl
theorem params : Tryd.f3.params.toList = [3, 3] := by kernel_rfl
theorem types : tsAll Tryd.prog 20 [3, 3] = some [[.int .i64], [.int .i64]] := by kernel_rfl
theorem arg1 (r : List D) : argV Tryd.prog 3 r = .one (.d (r.headD .dead)) := by kernel_rfl

theorem ok_int {x : D} {k : IntKind} (h : okD (.int k) x) : ∃ n, x = .int k n := by
  cases x <;> simp only [okD] at h
  obtain ⟨rfl, _⟩ := h; exact ⟨_, rfl⟩
theorem okR_cons {t : TS} {ts : List TS} {r : List D} (h : okR (t :: ts) r) : ∃ x r', r = x :: r' ∧ okD t x ∧ okR ts r' := by
  cases r with
  | nil => simp only [okR] at h
  | cons x r' => simp only [okR] at h; exact ⟨x, r', rfl, h.1, h.2⟩
theorem okR_nil {r : List D} (h : okR [] r) : r = [] := by
  cases r with
  | nil => rfl
  | cons => simp only [okR] at h

def Eqn : Prop := ∀ x y : Int, ∃ N out, evN tab (fun _ _ _ => none) N 3 [.one (.d (.int .i64 x)), .one (.d (.int .i64 y))] [] = some (.one (.d (.bool true)), out)

theorem eqn (he : Eqn) (rs : List (List D)) (ho : okRs [[.int .i64], [.int .i64]] rs) :
    ∃ N out, evN tab (fun _ _ _ => none) N 3 (argVs Tryd.prog [3, 3] rs) [] = some (.one (.d (.bool true)), out) := by
  match rs, ho with
  | [r3, r4], ⟨h3, h4, _⟩ =>
    obtain ⟨x3, q5, rfl, k5, g5⟩ := okR_cons h3
    obtain rfl := okR_nil g5
    obtain ⟨x, rfl⟩ := ok_int k5
    obtain ⟨x4, q6, rfl, k6, g6⟩ := okR_cons h4
    obtain rfl := okR_nil g6
    obtain ⟨y, rfl⟩ := ok_int k6
    obtain ⟨N, out, h⟩ := he x y
    refine ⟨N, out, ?_⟩
    simp only [argVs, arg1]
    exact h

theorem trodAll_len {H : Type} {enc : TypeId × Value → H} {P : Program} {W : World} {b : Nat} {sp : Nat → Bool} {hd : Bool} : ∀ {ts : List TypeId} {vs : List Value} {ds : List (DataW H)} {ps : List MemPlace}, DataW.TrodAll enc P W b sp hd ts vs ds ps → ds.length = ts.length
  | [], vs, ds, ps, h => by cases vs <;> cases ds <;> simp_all [DataW.TrodAll]
  | t :: ts, vs, ds, ps, h => by
    cases vs with
    | nil => simp [DataW.TrodAll] at h
    | cons v vs =>
      cases ds with
      | nil => simp [DataW.TrodAll] at h
      | cons d ds => obtain ⟨p, q, _, h2, _⟩ := h; simp [trodAll_len h2]

theorem contract (he : Eqn) (H : Type) (enc : TypeId × Value → H) (W : World) (base : Nat) (args : Array Value) (ds gs : List (DataW H)) (before : List MemPlace)
    (hval : ∀ (j : Nat) t v, Tryd.f3.params[j]? = some t → args[j]? = some v → Value.okWide Tryd.prog W .any base t v)
    (hW : DataW.Whole enc Tryd.prog Tryd.f3.params.toList Rows.parsePlacesSpec.vars false W args.toList ds gs before) :
    Calls Tryd.prog 3 args W fun e W' => ∃ v, e = .returned v ∧ Rows.parsePlacesSpec.post enc Tryd.prog Tryd.f3 false true false false W args v W' := by
  have hs : ∀ t ∈ Tryd.f3.params.toList, simpleT Tryd.prog 20 t = true := List.all_eq_true.1 (by kernel_rfl)
  have hW0 := hW
  obtain ⟨p, q, hA, hV, _⟩ := hW
  have hO : ∀ N, OSound Tryd.prog nm (evN tab (fun _ _ _ => none) N) := fun N => @evN_sound nm Tryd.prog tab (fun _ _ _ => none) tabOk (by intro f vs bx r out fid _ h; cases h) N
  refine (law_calls' (b := true) hO (f0 := 3) rfl Tryd.func3 (by kernel_rfl) rfl hA hs (by rw [params]; exact types) (fun j t v h1 h2 => hval j t v (by simpa using h1) h2) (fun rs h1 h2 => by rw [params]; exact eqn he rs h2)).mono fun e W' ⟨he, hl⟩ => ⟨_, he, ?_⟩
  refine law_post hW0 rfl hs (tb := Tryd.f3.resultTypes.getD 0 0) (by kernel_rfl) (by kernel_rfl) ?_ ?_ ?_ hl
  all_goals
    have hlen : ds.length = 2 := (trodAll_len hA).trans (by kernel_rfl)
    obtain ⟨rfl, _⟩ := trodVars_none hV
    match ds, hlen with
    | [d1, d2], _ => rfl

/-- So many blocks has the settled world. -/
noncomputable def low : Nat := (World.holding Tryd.prog default ⟨#[], #[], []⟩).heap.size
abbrev synS : ByteArray := { data := #[105, 110, 118, 97, 108, 105, 100, 32, 115, 121, 110, 116, 97, 120] }
abbrev rngS : ByteArray := { data := #[118, 97, 108, 117, 101, 32, 111, 117, 116, 32, 111, 102, 32, 114, 97, 110, 103, 101] }
def cellsL {H : Type} : DataW H → Array Value
  | .agg l => (l.map fun | .lit (.int k n) => Value.int k n | _ => .bool false).toArray
  | _ => #[]
def setB (w : World) (b : Nat) (c : Array Value) : World := { w with heap := w.heap.modify b fun | .cells _ t frozen => .cells c t frozen | o => o }
/-- The settled world, the five variables as their initialisers lay them. -/
noncomputable def laidWorld (os : Os) : World :=
  setB (setB (setB (setB (setB (World.holding Tryd.prog os ⟨#[.cells #[.string synS] 124, .cells #[.string rngS] 124], #[], []⟩)
    0 #[.iface 122 (.pointer (some ⟨low, 0, none⟩))]) 1 #[.iface 122 (.pointer (some ⟨low + 1, 0, none⟩))])
    2 (cellsL (Rows.laid_internal_strconv_uint64pow10 (H := Unit)))) 3 (cellsL (Rows.laid_math_bits_deBruijn32tab (H := Unit)))) 4 (cellsL (Rows.laid_math_bits_deBruijn64tab (H := Unit)))
theorem laid_met (os : Os) : laidMet Tryd.prog Rows.parsePlacesRow.laid ((laidWorld os).forCall (fun _ _ => 0) ⟨#[], #[.int .i64 0, .int .i64 0], []⟩).memory :=
  laidMet_of_run3 8 (by kernel_rfl) (by kernel_rfl) (by kernel_rfl)
theorem reads (os : Os) {H : Type} (enc : TypeId × Value → H) : ∃ places, DataW.whole enc Tryd.prog ((laidWorld os).forCall (fun _ _ => 0) ⟨#[], #[.int .i64 0, .int .i64 0], []⟩).memory Tryd.f3.params.toList Rows.parsePlacesSpec.vars false #[Value.int .i64 0, Value.int .i64 0].toList 8 = some ([.lit (.int .i64 0), .lit (.int .i64 0)], [], places) :=
  ⟨[], by kernel_rfl⟩

theorem lifted (he : Eqn) (os : Os) (started : os.Started) (H : Type) (enc : TypeId × Value → H) (F : Stop.Interp) :
    ReturnsInHanded {} Tryd.checked os 3 .any ((OpenSpec.ofChange Rows.parsePlacesSpec).preRow enc Tryd.prog Tryd.f3 Rows.parsePlacesRow.domain false Rows.parsePlacesRow.laid) (((OpenSpec.ofChange Rows.parsePlacesSpec).at F).post enc Tryd.prog Tryd.f3 false true false false) := by
  obtain ⟨places, hx⟩ := reads os enc
  refine returnsInHanded_of_row (C := Tryd.checked) (s := OpenSpec.ofChange Rows.parsePlacesSpec) own started (by kernel_rfl) Tryd.func3
    (witness_row_at (enc := enc) (C := Tryd.checked) false (laidWorld os) #[.int .i64 0, .int .i64 0] rfl (by kernel_rfl) (by kernel_rfl) (by kernel_rfl)
      (OpenSpec.preRow_of_cond 8 hx (by kernel_rfl) (fun k hk => by cases hk) (by kernel_rfl) (laid_met os))) ?_
  intro W base args ds gs before hval hW _ _ _ hL _ _
  exact contract he H enc W base args ds gs before hval hW

theorem said (he : Eqn) : Rows.ParsePlacesSaid :=
  OpenClaim.holds_of_cond 3 Tryd.f3 rfl rfl rfl rfl rfl rfl rfl ⟨rfl, rfl, rfl, rfl, rfl⟩ rfl rfl rfl rfl rfl (by kernel_rfl) Tryd.func3 (by kernel_rfl)
    (of_decide_eq_true (by kernel_rfl)) (by unfold Func.isWrapper; first | (rw [if_pos (by decide +kernel)]; kernel_rfl) | (rw [if_neg (by decide +kernel)]; exact ⟨rfl, rfl⟩))
    (fun os started H enc _ F => by rw [OpenClaim.pre_eq_preRow]; exact lifted he os started H enc F)

/-- No parameter wants a stand-in; the program's own looks are off. -/
theorem plain (f : FuncId) (fn : Func) (hf : Tryd.pinned.checked.prog.funcNamed "repartee/reparteelaw17.ParsePlaces" = some f) (hfn : Tryd.pinned.checked.prog.funcs[f]? = some fn) :
    true = Tryd.pinned.checked.prog.looks [] ∧ ∀ (j : Nat) t, fn.params[j]? = some t → Tryd.pinned.checked.prog.wantsStandIn t = false := by
  obtain rfl : f = 3 := Option.some.inj ((show Tryd.prog.funcNamed "repartee/reparteelaw17.ParsePlaces" = some 3 by kernel_rfl).symm.trans hf) |>.symm
  obtain rfl : fn = Tryd.f3 := (Option.some.inj (Tryd.func3.symm.trans hfn)).symm
  refine ⟨by kernel_rfl, fun j t ht => ?_⟩
  have h3 : t ∈ Tryd.f3.params.toList := by
    have := Array.mem_of_getElem? ht
    simpa using this
  rw [params] at h3
  obtain rfl : t = 3 := by simpa using h3
  exact (show Tryd.prog.wantsStandIn 3 = false by kernel_rfl)

/-- The card. -/
theorem card (he : Eqn) : Rows.ParsePlacesCardSaid :=
  Claim7.holds_tied_plain_at .later [] _ _ _ _ (said he) (fun _ h => by cases h) (by kernel_rfl) (fun _ h => by cases h) parsePlaces_row_tie rfl ⟨rfl, rfl⟩ (by kernel_rfl) rfl plain (by kernel_rfl)
theorem eqn_holds : Eqn := fun x y => ⟨201, [], T_sound _ 201 _ _ _ _ (law x y)⟩
/-- The card. -/
theorem proved : Rows.ParsePlacesCardSaid := card eqn_holds
end Go.Proofs.YtoefhpgdmkckiaaDoor.parsePlaces
