/- PROVED: of a nil kernel script.Run answers nothing done and the error of a nil object, and script.Calm answers nothing done, at every text and all numbers (the law ScriptNil returns true), and the tied card of it. No condition beyond the row's. -/
import Derived.Test.YtbhmocfiifmmcaaGreatDoorCards
import Derived.Test.YtbhmocfiifmmcaaGreatDoorTie
import Derived.Test.YtbhmocfiifmmcaaGreatDoorScLawNil
import Derived.Test.YtbhmocfiifmmcaaGreatDoorScFactsNil
import Derived.WalkKit
import Derived.ProofKit
import Derived.OpenShut
import Derived.Carry
import Derived.Lay
import Derived.LaidMore
import Derived.Deep.DeepHandedRow
import Derived.Deep.Slices
import Derived.Deep.Fields
import Derived.Lib.LaidTab
import Derived.Stop.LaidErr
import Derived.HandedShaped
import Derived.SevenTiedAt
import Derived.Stop.Joined
namespace Go.Proofs.YtbhmocfiifmmcaaGreatDoor.scriptNil
open Go.ChangeMaps (open_string shut_string)
open Go.ChangeShapes Go.WideShapes Go.ChangeAt Go.RowKit Go.Deep

theorem own : ownKnob Tryz.prog.godebug = none := by kernel_rfl

/-! ### what the row's list gives -/
theorem laid_at {L : List (String × DataW Unit)} {W : World} (n : String) (d : DataW Unit) (h : laidMet Tryz.prog L W) (hx : (n, d) ∈ L) : ∃ r, laidMet Tryz.prog ((n, d) :: r) W := by
  induction L with
  | nil => cases hx
  | cons x r ih =>
    rcases List.mem_cons.1 hx with e | e
    · subst e; exact ⟨r, h⟩
    · exact ih h.tail e
theorem gSyn : Tryz.prog.globalNamed "strconv.ErrSyntax" = some 4 := by kernel_rfl
theorem gRng : Tryz.prog.globalNamed "strconv.ErrRange" = some 5 := by kernel_rfl
theorem gFor : Tryz.prog.globalNamed "boomerang/script.forms" = some 0 := by kernel_rfl
theorem tSyn : (Tryz.prog.globals[4]?).map (·.type) = some 129 := by kernel_rfl
theorem tRng : (Tryz.prog.globals[5]?).map (·.type) = some 129 := by kernel_rfl
theorem tFor : (Tryz.prog.globals[0]?).map (·.type) = some 63 := by kernel_rfl

theorem starErr : "*" ++ "errors.errorString" = "*errors.errorString" := by decide
theorem rowErr (u : TypeId) (h : Tryz.prog.typeName? 3 u = some "*errors.errorString") : u = 330 :=
  typeName_ptr_named (nm := "errors.errorString") (by rw [starErr]; kernel_rfl) (by kernel_rfl) (by decide) u (by rw [starErr]; exact h)
theorem syn_of {W : World} (h : laidMet Tryz.prog Rows.scriptNilRow.laid W) : ∃ tp p, W.var? Tryz.prog "strconv.ErrSyntax" = some #[.iface tp p] := by
  obtain ⟨r, hr⟩ := laid_at "strconv.ErrSyntax" Rows.laid_strconv_ErrSyntax h (by simp [Rows.scriptNilRow])
  obtain ⟨a, _, hv, _⟩ := laid_sentinel hr gSyn tSyn Tryz.underlying129 rowErr Tryz.underlying330 Tryz.underlying332 rfl rfl Tryz.underlying9 (by kernel_rfl) (by kernel_rfl)
  exact ⟨_, _, hv⟩
theorem rng_of {W : World} (h : laidMet Tryz.prog Rows.scriptNilRow.laid W) : ∃ tp p, W.var? Tryz.prog "strconv.ErrRange" = some #[.iface tp p] := by
  obtain ⟨r, hr⟩ := laid_at "strconv.ErrRange" Rows.laid_strconv_ErrRange h (by simp [Rows.scriptNilRow])
  obtain ⟨a, _, hv, _⟩ := laid_sentinel hr gRng tRng Tryz.underlying129 rowErr Tryz.underlying330 Tryz.underlying332 rfl rfl Tryz.underlying9 (by kernel_rfl) (by kernel_rfl)
  exact ⟨_, _, hv⟩
theorem form_elem {W : World} {fuel : Nat} {c0 c1 : Value} {s : List UInt8} {n : Int} {p : List MemPlace} {enc : TypeId × Value → Unit} {base : Nat} {sp : Nat → Bool} {hd : Bool}
    (h : DataW.trod enc Tryz.prog W base sp hd fuel 62 [c0, c1] = some (.agg [.lit (.string s), .lit (.int .i64 n)], p)) : c0 = .string ⟨s.toArray⟩ ∧ c1 = .int .i64 n := by
  obtain ⟨ys, n', _, hy, _, hlen, hf⟩ := DataW.trod_struct Tryz.underlying62 h
  have c9 : Tryz.prog.cellsOf 9 = 1 := by kernel_rfl
  have c3 : Tryz.prog.cellsOf 3 = 1 := by kernel_rfl
  have f0 : DataW.trod enc Tryz.prog W base sp hd n' 9 (([c0, c1].drop 0).take (Tryz.prog.cellsOf 9)) = ys[0]? := hf 0 _ rfl
  have f1 : DataW.trod enc Tryz.prog W base sp hd n' 3 (([c0, c1].drop 1).take (Tryz.prog.cellsOf 3)) = ys[1]? := hf 1 _ rfl
  rw [c9] at f0
  rw [c3] at f1
  rcases ys with _ | ⟨y0, _ | ⟨y1, _ | ⟨y2, r⟩⟩⟩
  · simp at hlen
  · simp at hlen
  · obtain ⟨z0, e0, e0', _⟩ := DataW.trod_string Tryz.underlying9 f0
    obtain ⟨z1, e1, e1', _⟩ := DataW.trod_int Tryz.underlying3 f1
    have g0 : c0 = .string z0 := by simpa using e0
    have g1 : c1 = .int .i64 z1 := by simpa using e1
    subst g0 g1 e0' e1'
    simp only [Prod.mk.injEq, List.map_cons, List.map_nil, DataW.agg.injEq, List.cons.injEq, DataW.lit.injEq, Lit.string.injEq, Lit.int.injEq, and_true, true_and] at hy
    obtain ⟨⟨hs, hn⟩, _⟩ := hy
    exact ⟨by rw [hs], by rw [hn]⟩
  · simp at hlen
set_option maxRecDepth 100000 in
theorem forms_of {W : World} (h : laidMet Tryz.prog Rows.scriptNilRow.laid W) : Forms W := by
  obtain ⟨r, hr⟩ := laid_at "boomerang/script.forms" Rows.laid_boomerang_script_forms h (by simp [Rows.scriptNilRow])
  obtain ⟨ps, ⟨g0, t0, cs0, f0, p0, q0, hg0, ht0, hv0, hd0, _, e0⟩, _, _⟩ := hr
  obtain rfl := Option.some.inj (gFor.symm.trans hg0)
  obtain rfl := Option.some.inj (tFor.symm.trans ht0)
  have c57 : Tryz.prog.cellsOf 62 = 2 := by kernel_rfl
  have c58 : Tryz.prog.cellsOf 63 = 8 := by kernel_rfl
  obtain ⟨xs, m, _, ex, hcl, hl, hel⟩ := DataW.trod_array Tryz.underlying63 hd0
  rw [c58] at hcl
  have h0 : DataW.trod _ Tryz.prog W _ _ _ m 62 ((cs0.toList.drop (0 * Tryz.prog.cellsOf 62)).take (Tryz.prog.cellsOf 62)) = xs[0]? := hel 0 (by omega)
  have h1 : DataW.trod _ Tryz.prog W _ _ _ m 62 ((cs0.toList.drop (1 * Tryz.prog.cellsOf 62)).take (Tryz.prog.cellsOf 62)) = xs[1]? := hel 1 (by omega)
  have h2 : DataW.trod _ Tryz.prog W _ _ _ m 62 ((cs0.toList.drop (2 * Tryz.prog.cellsOf 62)).take (Tryz.prog.cellsOf 62)) = xs[2]? := hel 2 (by omega)
  have h3 : DataW.trod _ Tryz.prog W _ _ _ m 62 ((cs0.toList.drop (3 * Tryz.prog.cellsOf 62)).take (Tryz.prog.cellsOf 62)) = xs[3]? := hel 3 (by omega)
  rw [c57] at h0 h1 h2 h3
  clear hel
  rcases xs with _ | ⟨x0, _ | ⟨x1, _ | ⟨x2, _ | ⟨x3, _ | ⟨x4, r⟩⟩⟩⟩⟩
  · simp at hl
  · simp at hl
  · simp at hl
  · simp at hl
  · have ex1 : Rows.laid_boomerang_script_forms = (.agg [x0.1, x1.1, x2.1, x3.1] : DataW Unit) := congrArg Prod.fst ex
    unfold Rows.laid_boomerang_script_forms at ex1
    injection ex1 with ex1
    injection ex1 with e0 ex1
    injection ex1 with e1 ex1
    injection ex1 with e2 ex1
    injection ex1 with e3 ex1
    obtain ⟨l0⟩ := cs0
    rcases l0 with _ | ⟨a0, _ | ⟨a1, _ | ⟨a2, _ | ⟨a3, _ | ⟨a4, _ | ⟨a5, _ | ⟨a6, _ | ⟨a7, _ | ⟨a8, r⟩⟩⟩⟩⟩⟩⟩⟩⟩ <;> simp at hcl
    obtain ⟨d0, p0⟩ := x0
    obtain ⟨d1, p1⟩ := x1
    obtain ⟨d2, p2⟩ := x2
    obtain ⟨d3, p3⟩ := x3
    simp only at e0 e1 e2 e3
    subst e0 e1 e2 e3
    obtain ⟨u0, v0⟩ := form_elem h0
    obtain ⟨u1, v1⟩ := form_elem h1
    obtain ⟨u2, v2⟩ := form_elem h2
    obtain ⟨u3, v3⟩ := form_elem h3
    subst u0 v0 u1 v1 u2 v2 u3 v3
    have hcell := fun i => World.var?_cell gFor hv0 i
    exact ⟨hcell 0, hcell 1, hcell 2, hcell 3, hcell 4, hcell 5, hcell 6, hcell 7⟩
  · simp at hl
theorem env_of {W : World} (h : laidMet Tryz.prog Rows.scriptNilRow.laid W) (hs : W.ShapedOpen Tryz.prog) : Env W :=
  ⟨forms_of h, syn_of h, rng_of h, cell_of_shapedOpen_int (zero := #[.int .i64 0]) (t := 3) hs (of_decide_eq_true (by kernel_rfl)) (by kernel_rfl) rfl (by kernel_rfl) (by kernel_rfl) Tryz.underlying3⟩

theorem laidOut : laidOutB Tryz.prog = true := by kernel_rfl

set_option maxRecDepth 100000 in
/-- WHAT THE WALK GIVES, FOR EVERY ARGUMENT AND EVERY WORLD THAT HOLDS THE LISTED VARIABLES. -/
theorem contract (H : Type) (enc : TypeId × Value → H) (W : World) (base : Nat) (args : Array Value) (ds gs : List (DataW H)) (before : List MemPlace)
    (hval : ∀ (j : Nat) t v, Tryz.f3.params[j]? = some t → args[j]? = some v → Value.okWide Tryz.prog W .any base t v)
    (hW : DataW.Whole enc Tryz.prog Tryz.f3.params.toList Rows.scriptNilSpec.vars false W args.toList ds gs before) (hL : laidMetH Tryz.prog Rows.scriptNilRow.laid W) (hsh : W.ShapedOpen Tryz.prog) :
    Calls Tryz.prog 3 args W fun e W' => ∃ v, e = .returned v ∧ Rows.scriptNilSpec.post enc Tryz.prog Tryz.f3 false true false false W args v W' := by
  have hW' := hW
  obtain ⟨p, q, hA0, hV, rfl, hfz, hnd⟩ := hW
  have hA : DataW.TrodAll enc Tryz.prog W 0 (fun _ => true) true Tryz.f3.params.toList args.toList ds p := hA0
  rw [Tryz.params3] at hA hval
  obtain ⟨v0, v1, v2, d0, d1, d2, p0, p1, p2, rfl, rfl, rfl, h0, h1, h2⟩ := trodAll_three hA
  obtain ⟨rfl, rfl⟩ := trodVars_none hV
  obtain ⟨s, rfl, rfl, rfl, ws⟩ := open_string Tryz.underlying9 (hval 0 9 v0 rfl rfl) h0
  obtain ⟨x, rfl, rfl, rfl, wx⟩ := open_int Tryz.underlying3 (hval 1 3 v1 rfl rfl) h1
  obtain ⟨y, rfl, rfl, rfl, wy⟩ := open_int Tryz.underlying3 (hval 2 3 v2 rfl rfl) h2
  rw [MakeChecks.laidMetH_plain _ _ _ (by kernel_rfl)] at hL
  refine (scriptNil_calls s x y W (env_of hL hsh)).mono fun e W' ⟨he, hb⟩ => ?_
  subst he
  refine ⟨_, rfl, _, _, _, [], [], [], hW', ?_, ?_, rfl, hb.frame _, fun h => by cases h⟩
  · exact trodAll_mk1 (shut_bool Tryz.underlying4 _)
  · exact trodAll_mk3 (shut_string Tryz.underlying9 ws) (shut_int Tryz.underlying3 wx) (shut_int Tryz.underlying3 wy)

/-- A WORLD FOR THE WITNESS: all listed variables laid. -/
theorem laid_met (os : Os) (args : Array Value) : laidMetH Tryz.prog Rows.scriptNilRow.laid ((World.laidAll Tryz.prog os Rows.scriptNilRow.laid).forCall (fun _ _ => 0) ⟨#[], args, []⟩).memory := by
  rw [MakeChecks.laidMetH_plain _ _ _ (by kernel_rfl)]
  exact laidMet_laidAll _ (by kernel_rfl) (by kernel_rfl)
theorem shaped (os : Os) : ((World.laidAll Tryz.prog os Rows.scriptNilRow.laid).forCall (fun _ _ => 0) ⟨#[], #[.string ⟨#[]⟩, .int .i64 0, .int .i64 0], []⟩).Shaped Tryz.prog :=
  World.shaped_of_ZipB (by kernel_rfl) (by kernel_rfl)
theorem reads (os : Os) {H : Type} (enc : TypeId × Value → H) : ∃ places, DataW.whole enc Tryz.prog ((World.laidAll Tryz.prog os Rows.scriptNilRow.laid).forCall (fun _ _ => 0) ⟨#[], #[.string ⟨#[]⟩, .int .i64 0, .int .i64 0], []⟩).memory Tryz.f3.params.toList Rows.scriptNilSpec.vars false #[Value.string ⟨#[]⟩, Value.int .i64 0, Value.int .i64 0].toList 8 = some ([.lit (.string []), .lit (.int .i64 0), .lit (.int .i64 0)], [], places) :=
  ⟨[], by kernel_rfl⟩

set_option maxRecDepth 100000 in
theorem lifted (os : Os) (started : os.Started) (H : Type) (enc : TypeId × Value → H) (F : Stop.Interp) :
    ReturnsInHanded {} Tryz.checked os 3 .any ((OpenSpec.ofChange Rows.scriptNilSpec).preRow enc Tryz.prog Tryz.f3 Rows.scriptNilRow.domain false Rows.scriptNilRow.laid) (((OpenSpec.ofChange Rows.scriptNilSpec).at F).post enc Tryz.prog Tryz.f3 false true false false) := by
  obtain ⟨places, hx⟩ := reads os enc
  have hok : Input.okWideB Tryz.checked.prog ((World.laidAll Tryz.prog os Rows.scriptNilRow.laid).forCall (fun _ _ => 0) ⟨#[], #[.string ⟨#[]⟩, .int .i64 0, .int .i64 0], []⟩) 3 ⟨#[], #[.string ⟨#[]⟩, .int .i64 0, .int .i64 0], []⟩ = true := by kernel_rfl
  refine returnsInHanded_of_row (C := Tryz.checked) (s := OpenSpec.ofChange Rows.scriptNilSpec) own started (by kernel_rfl) Tryz.func3
    ⟨World.laidAll Tryz.prog os Rows.scriptNilRow.laid, fun _ _ => 0, ⟨#[], #[.string ⟨#[]⟩, .int .i64 0, .int .i64 0], []⟩, World.laidAll_os _ _ _, shaped os, (Input.okWide_of_okWideB (base := 0) hok).1, (Input.okWide_of_okWideB hok).2,
      OpenSpec.preRow_of_cond 8 hx (by kernel_rfl) (fun k hk => by cases hk) (by kernel_rfl) (laid_met os _), by simp [Assume.holds]⟩ ?_
  intro W base args ds gs before hval hW _ _ _ hL hsh _
  exact contract H enc W base args ds gs before hval hW hL hsh

set_option maxRecDepth 1000000 in
theorem said : Rows.ScriptNilSaid :=
  OpenClaim.holds_of_cond 3 Tryz.f3 rfl rfl rfl rfl rfl rfl rfl ⟨rfl, rfl, rfl, rfl, rfl⟩ rfl rfl rfl rfl rfl (by kernel_rfl) Tryz.func3 scriptNilFacts.closed
    (of_decide_eq_true (by kernel_rfl)) (by unfold Func.isWrapper; first | (rw [if_pos (by decide +kernel)]; kernel_rfl) | (rw [if_neg (by decide +kernel)]; exact ⟨rfl, rfl⟩))
    (fun os started H enc _ F => by rw [OpenClaim.pre_eq_preRow]; exact lifted os started H enc F)

/-- No parameter wants a stand-in; the program's own looks are on: what the card asks. -/
theorem plain (f : FuncId) (fn : Func) (hf : Tryz.pinned.checked.prog.funcNamed "boomerang/boomeranglaw21.ScriptNil" = some f) (hfn : Tryz.pinned.checked.prog.funcs[f]? = some fn) :
    true = Tryz.pinned.checked.prog.looks [] ∧ ∀ (j : Nat) t, fn.params[j]? = some t → Tryz.pinned.checked.prog.wantsStandIn t = false := by
  obtain rfl : f = 3 := Option.some.inj ((show Tryz.prog.funcNamed "boomerang/boomeranglaw21.ScriptNil" = some 3 by kernel_rfl).symm.trans hf) |>.symm
  obtain rfl : fn = Tryz.f3 := (Option.some.inj (Tryz.func3.symm.trans hfn)).symm
  refine ⟨by kernel_rfl, fun j t ht => ?_⟩
  rw [Tryz.params3] at ht
  have hm : t ∈ #[9, 3, 3] := Array.mem_of_getElem? ht
  have h0 : Tryz.prog.wantsStandIn 9 = false := by kernel_rfl
  have h1 : Tryz.prog.wantsStandIn 3 = false := by kernel_rfl
  simp only [List.mem_toArray, List.mem_cons, List.not_mem_nil, or_false] at hm
  rcases hm with e | e | e <;> rw [e]
  · exact h0
  · exact h1
  · exact h1

/-- THE CARD -/
theorem card : Rows.ScriptNilCardSaid :=
  Claim7.holds_tied_plain_at .later [] _ _ _ _ said (fun _ h => by cases h) (by kernel_rfl) (fun _ h => by cases h) scriptNil_row_tie rfl ⟨rfl, rfl⟩ (by kernel_rfl) rfl plain (by kernel_rfl)
end Go.Proofs.YtbhmocfiifmmcaaGreatDoor.scriptNil
namespace Go.Proofs.YtbhmocfiifmmcaaGreatDoor
/-- The card of ScriptNil. -/
theorem scriptNil_card : Rows.ScriptNilCardSaid := scriptNil.card
#print axioms scriptNil_card
end Go.Proofs.YtbhmocfiifmmcaaGreatDoor
