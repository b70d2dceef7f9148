/- PROVED: script.Print and the document's answer give the same text, or the same error, at every list of things (the law ScriptPrints returns true and leaves its argument as it was), and the tied card of it. No condition beyond the row's. -/
import Derived.Test.YtmchngdgngcllaaDoorCards
import Derived.Test.YtmchngdgngcllaaDoorTie
import Derived.Test.YtmchngdgngcllaaDoorScLawW
import Derived.WalkKit
import Derived.ProofKit
import Derived.OpenShut
import Derived.Carry
import Derived.Lay
import Derived.LaidMore
import Derived.Deep.DeepHandedRow
import Derived.Deep.Slices
import Derived.Deep.Fields
import Derived.Lib.LaidTab
import Derived.Stop.LaidErr
import Derived.HandedShaped
import Derived.SevenTiedAt
import Derived.Stop.Joined
namespace Go.Proofs.YtmchngdgngcllaaDoor.scriptPrints
open Go.ChangeShapes Go.WideShapes Go.ChangeAt Go.RowKit Go.Deep

theorem own : ownKnob Tryd.prog.godebug = none := by kernel_rfl

/-! ### what the row's list gives -/
theorem laid_at {L : List (String × DataW Unit)} {W : World} (n : String) (d : DataW Unit) (h : laidMet Tryd.prog L W) (hx : (n, d) ∈ L) : ∃ r, laidMet Tryd.prog ((n, d) :: r) W := by
  induction L with
  | nil => cases hx
  | cons x r ih =>
    rcases List.mem_cons.1 hx with e | e
    · subst e; exact ⟨r, h⟩
    · exact ih h.tail e
theorem gPow : Tryd.prog.globalNamed "internal/strconv.uint64pow10" = some 1 := by kernel_rfl
theorem gSyn : Tryd.prog.globalNamed "strconv.ErrSyntax" = some 7 := by kernel_rfl
theorem gRng : Tryd.prog.globalNamed "strconv.ErrRange" = some 8 := by kernel_rfl
theorem gFor : Tryd.prog.globalNamed "boomerang/script.forms" = some 0 := by kernel_rfl
theorem tPow : (Tryd.prog.globals[1]?).map (·.type) = some 90 := by kernel_rfl
theorem tSyn : (Tryd.prog.globals[7]?).map (·.type) = some 44 := by kernel_rfl
theorem tRng : (Tryd.prog.globals[8]?).map (·.type) = some 44 := by kernel_rfl
theorem tFor : (Tryd.prog.globals[0]?).map (·.type) = some 58 := by kernel_rfl

theorem pow_of {W : World} (h : laidMet Tryd.prog Rows.scriptPrintsRow.laid W) : Pow10 W := by
  obtain ⟨r, hr⟩ := laid_at "internal/strconv.uint64pow10" Rows.laid_internal_strconv_uint64pow10 h (by simp [Rows.scriptPrintsRow])
  exact Lib.tabIs_of_head (rest := r) (zs := Lib.pow10Tab) gPow tPow Tryd.underlying90 Tryd.underlying80 (by kernel_rfl) (by kernel_rfl) (by exact hr)
theorem starErr : "*" ++ "errors.errorString" = "*errors.errorString" := by decide
theorem rowErr (u : TypeId) (h : Tryd.prog.typeName? 3 u = some "*errors.errorString") : u = 120 :=
  typeName_ptr_named (nm := "errors.errorString") (by rw [starErr]; kernel_rfl) (by kernel_rfl) (by decide) u (by rw [starErr]; exact h)
theorem syn_of {W : World} (h : laidMet Tryd.prog Rows.scriptPrintsRow.laid W) : ∃ tp p, W.var? Tryd.prog "strconv.ErrSyntax" = some #[.iface tp p] := by
  obtain ⟨r, hr⟩ := laid_at "strconv.ErrSyntax" Rows.laid_strconv_ErrSyntax h (by simp [Rows.scriptPrintsRow])
  obtain ⟨a, _, hv, _⟩ := laid_sentinel hr gSyn tSyn Tryd.underlying44 rowErr Tryd.underlying120 Tryd.underlying122 rfl rfl Tryd.underlying9 (by kernel_rfl) (by kernel_rfl)
  exact ⟨_, _, hv⟩
theorem rng_of {W : World} (h : laidMet Tryd.prog Rows.scriptPrintsRow.laid W) : ∃ tp p, W.var? Tryd.prog "strconv.ErrRange" = some #[.iface tp p] := by
  obtain ⟨r, hr⟩ := laid_at "strconv.ErrRange" Rows.laid_strconv_ErrRange h (by simp [Rows.scriptPrintsRow])
  obtain ⟨a, _, hv, _⟩ := laid_sentinel hr gRng tRng Tryd.underlying44 rowErr Tryd.underlying120 Tryd.underlying122 rfl rfl Tryd.underlying9 (by kernel_rfl) (by kernel_rfl)
  exact ⟨_, _, hv⟩
theorem form_elem {W : World} {fuel : Nat} {c0 c1 : Value} {s : List UInt8} {n : Int} {p : List MemPlace} {enc : TypeId × Value → Unit} {base : Nat} {sp : Nat → Bool} {hd : Bool}
    (h : DataW.trod enc Tryd.prog W base sp hd fuel 57 [c0, c1] = some (.agg [.lit (.string s), .lit (.int .i64 n)], p)) : c0 = .string ⟨s.toArray⟩ ∧ c1 = .int .i64 n := by
  obtain ⟨ys, n', _, hy, _, hlen, hf⟩ := DataW.trod_struct Tryd.underlying57 h
  have c9 : Tryd.prog.cellsOf 9 = 1 := by kernel_rfl
  have c3 : Tryd.prog.cellsOf 3 = 1 := by kernel_rfl
  have f0 : DataW.trod enc Tryd.prog W base sp hd n' 9 (([c0, c1].drop 0).take (Tryd.prog.cellsOf 9)) = ys[0]? := hf 0 _ rfl
  have f1 : DataW.trod enc Tryd.prog W base sp hd n' 3 (([c0, c1].drop 1).take (Tryd.prog.cellsOf 3)) = ys[1]? := hf 1 _ rfl
  rw [c9] at f0
  rw [c3] at f1
  rcases ys with _ | ⟨y0, _ | ⟨y1, _ | ⟨y2, r⟩⟩⟩
  · simp at hlen
  · simp at hlen
  · obtain ⟨z0, e0, e0', _⟩ := DataW.trod_string Tryd.underlying9 f0
    obtain ⟨z1, e1, e1', _⟩ := DataW.trod_int Tryd.underlying3 f1
    have g0 : c0 = .string z0 := by simpa using e0
    have g1 : c1 = .int .i64 z1 := by simpa using e1
    subst g0 g1 e0' e1'
    simp only [Prod.mk.injEq, List.map_cons, List.map_nil, DataW.agg.injEq, List.cons.injEq, DataW.lit.injEq, Lit.string.injEq, Lit.int.injEq, and_true, true_and] at hy
    obtain ⟨⟨hs, hn⟩, _⟩ := hy
    exact ⟨by rw [hs], by rw [hn]⟩
  · simp at hlen
set_option maxRecDepth 100000 in
theorem forms_of {W : World} (h : laidMet Tryd.prog Rows.scriptPrintsRow.laid W) : Forms W := by
  obtain ⟨r, hr⟩ := laid_at "boomerang/script.forms" Rows.laid_boomerang_script_forms h (by simp [Rows.scriptPrintsRow])
  obtain ⟨ps, ⟨g0, t0, cs0, f0, p0, q0, hg0, ht0, hv0, hd0, _, e0⟩, _, _⟩ := hr
  obtain rfl := Option.some.inj (gFor.symm.trans hg0)
  obtain rfl := Option.some.inj (tFor.symm.trans ht0)
  have c57 : Tryd.prog.cellsOf 57 = 2 := by kernel_rfl
  have c58 : Tryd.prog.cellsOf 58 = 8 := by kernel_rfl
  obtain ⟨xs, m, _, ex, hcl, hl, hel⟩ := DataW.trod_array Tryd.underlying58 hd0
  rw [c58] at hcl
  have h0 : DataW.trod _ Tryd.prog W _ _ _ m 57 ((cs0.toList.drop (0 * Tryd.prog.cellsOf 57)).take (Tryd.prog.cellsOf 57)) = xs[0]? := hel 0 (by omega)
  have h1 : DataW.trod _ Tryd.prog W _ _ _ m 57 ((cs0.toList.drop (1 * Tryd.prog.cellsOf 57)).take (Tryd.prog.cellsOf 57)) = xs[1]? := hel 1 (by omega)
  have h2 : DataW.trod _ Tryd.prog W _ _ _ m 57 ((cs0.toList.drop (2 * Tryd.prog.cellsOf 57)).take (Tryd.prog.cellsOf 57)) = xs[2]? := hel 2 (by omega)
  have h3 : DataW.trod _ Tryd.prog W _ _ _ m 57 ((cs0.toList.drop (3 * Tryd.prog.cellsOf 57)).take (Tryd.prog.cellsOf 57)) = xs[3]? := hel 3 (by omega)
  rw [c57] at h0 h1 h2 h3
  clear hel
  rcases xs with _ | ⟨x0, _ | ⟨x1, _ | ⟨x2, _ | ⟨x3, _ | ⟨x4, r⟩⟩⟩⟩⟩
  · simp at hl
  · simp at hl
  · simp at hl
  · simp at hl
  · have ex1 : Rows.laid_boomerang_script_forms = (.agg [x0.1, x1.1, x2.1, x3.1] : DataW Unit) := congrArg Prod.fst ex
    unfold Rows.laid_boomerang_script_forms at ex1
    injection ex1 with ex1
    injection ex1 with e0 ex1
    injection ex1 with e1 ex1
    injection ex1 with e2 ex1
    injection ex1 with e3 ex1
    obtain ⟨l0⟩ := cs0
    rcases l0 with _ | ⟨a0, _ | ⟨a1, _ | ⟨a2, _ | ⟨a3, _ | ⟨a4, _ | ⟨a5, _ | ⟨a6, _ | ⟨a7, _ | ⟨a8, r⟩⟩⟩⟩⟩⟩⟩⟩⟩ <;> simp at hcl
    obtain ⟨d0, p0⟩ := x0
    obtain ⟨d1, p1⟩ := x1
    obtain ⟨d2, p2⟩ := x2
    obtain ⟨d3, p3⟩ := x3
    simp only at e0 e1 e2 e3
    subst e0 e1 e2 e3
    obtain ⟨u0, v0⟩ := form_elem h0
    obtain ⟨u1, v1⟩ := form_elem h1
    obtain ⟨u2, v2⟩ := form_elem h2
    obtain ⟨u3, v3⟩ := form_elem h3
    subst u0 v0 u1 v1 u2 v2 u3 v3
    have hcell := fun i => World.var?_cell gFor hv0 i
    exact ⟨hcell 0, hcell 1, hcell 2, hcell 3, hcell 4, hcell 5, hcell 6, hcell 7⟩
  · simp at hl
theorem env_of {W : World} (h : laidMet Tryd.prog Rows.scriptPrintsRow.laid W) (hs : W.ShapedOpen Tryd.prog) : Env W :=
  ⟨forms_of h, pow_of h, syn_of h, rng_of h, cell_of_shapedOpen_int (zero := #[.int .i64 0]) (t := 3) hs (of_decide_eq_true (by kernel_rfl)) (by kernel_rfl) rfl (by kernel_rfl) (by kernel_rfl) Tryd.underlying3⟩

/-! ### the argument -/
theorem list_of_each {α : Type} (n : Nat) (P : Nat → α → Prop) (h : ∀ i, i < n → ∃ x, P i x) : ∃ l : List α, l.length = n ∧ ∀ (i : Nat) (x : α), l[i]? = some x → P i x := by
  induction n with
  | zero => exact ⟨[], rfl, fun i x hx => by simp at hx⟩
  | succ n ih =>
    obtain ⟨l, hl, hp⟩ := ih fun i hi => h i (by omega)
    obtain ⟨y, hy⟩ := h n (by omega)
    refine ⟨l ++ [y], by simp [hl], fun i x hx => ?_⟩
    rcases Nat.lt_trichotomy i n with h1 | h1 | h1
    · rw [List.getElem?_append_left (by omega)] at hx
      exact hp i x hx
    · subst h1
      rw [List.getElem?_append_right (by omega), hl, Nat.sub_self] at hx
      simp at hx
      exact hx ▸ hy
    · rw [List.getElem?_eq_none (by simp; omega)] at hx
      cases hx

theorem open_dos {H : Type} {enc : TypeId × Value → H} {W : World} {spare : Nat → Bool} {held : Bool} {fuel : Nat} {cs : List Value} {x : DataW H × List MemPlace} (h : DataW.trod enc Tryd.prog W 0 spare held fuel 22 cs = some x) :
    ∃ (A : Option Addr) (l : List Sc.D) (cap : Nat), cs = [.slice A l.length cap] ∧ l.length ≤ cap ∧ cap ≤ maxLen ∧ SliceAt doC 3 W W.heap.size A l ∧ ∀ d ∈ l, I64 d.a ∧ I64 d.b := by
  have c36 : Tryd.prog.cellsOf 36 = 3 := by kernel_rfl
  have c3 : Tryd.prog.cellsOf 3 = 1 := by kernel_rfl
  rcases open_slice Tryd.underlying22 h with ⟨rfl, _⟩ | ⟨a, len, cap, m, n, D, Pl, rfl, _, hlc, hcm, hm, _, hi⟩
  · exact ⟨none, [], 0, rfl, Nat.le_refl _, Nat.zero_le _, .inl rfl, fun d hd => absurd hd List.not_mem_nil⟩
  have hlm : len ≤ m := by rw [hm]; split <;> omega
  have each : ∀ i, i < len → ∃ d : Sc.D, (I64 d.a ∧ I64 d.b) ∧ W.cell? (a.add (i * 3)) = some (.int .i64 d.x) ∧ W.cell? (a.add (i * 3 + 1)) = some (.int .i64 d.a) ∧ W.cell? (a.add (i * 3 + 2)) = some (.int .i64 d.b) := by
    intro i hil
    obtain ⟨cs', hc, ht'⟩ := hi i (by omega)
    rw [c36] at hc
    obtain ⟨ys, n', _, _, _, hlen, hf⟩ := DataW.trod_struct Tryd.underlying36 ht'
    obtain ⟨_, hcl, hat⟩ := World.cells?_some hc
    rcases cs' with _ | ⟨v0, _ | ⟨v1, _ | ⟨v2, _ | ⟨v3, r⟩⟩⟩⟩
    · simp at hcl
    · simp at hcl
    · simp at hcl
    · have f0 : DataW.trod enc Tryd.prog W 0 spare held n' 3 (([v0, v1, v2].drop 0).take (Tryd.prog.cellsOf 3)) = ys[0]? := hf 0 _ rfl
      have f1 : DataW.trod enc Tryd.prog W 0 spare held n' 3 (([v0, v1, v2].drop 1).take (Tryd.prog.cellsOf 3)) = ys[1]? := hf 1 _ rfl
      have f2 : DataW.trod enc Tryd.prog W 0 spare held n' 3 (([v0, v1, v2].drop 2).take (Tryd.prog.cellsOf 3)) = ys[2]? := hf 2 _ rfl
      rw [c3] at f0 f1 f2
      rcases ys with _ | ⟨y0, _ | ⟨y1, _ | ⟨y2, _ | ⟨y3, r⟩⟩⟩⟩
      · simp at hlen
      · simp at hlen
      · simp at hlen
      · obtain ⟨z0, e0, _, _⟩ := DataW.trod_int Tryd.underlying3 f0
        obtain ⟨z1, e1, _, w1⟩ := DataW.trod_int Tryd.underlying3 f1
        obtain ⟨z2, e2, _, w2⟩ := DataW.trod_int Tryd.underlying3 f2
        have g0 : v0 = .int .i64 z0 := by simpa using e0
        have g1 : v1 = .int .i64 z1 := by simpa using e1
        have g2 : v2 = .int .i64 z2 := by simpa using e2
        subst g0 g1 g2
        have b1 : I64 z1 := by simp [Lit.wf, IntKind.min, IntKind.max, IntKind.signed, IntKind.bits] at w1; exact w1
        have b2 : I64 z2 := by simp [Lit.wf, IntKind.min, IntKind.max, IntKind.signed, IntKind.bits] at w2; exact w2
        refine ⟨⟨z0, z1, z2⟩, ⟨b1, b2⟩, ?_, ?_, ?_⟩
        · have := hat 0 (by omega)
          rw [add_add] at this
          simpa using this
        · have := hat 1 (by omega)
          rw [add_add] at this
          simpa using this
        · have := hat 2 (by omega)
          rw [add_add] at this
          simpa using this
      · simp at hlen
    · simp at hcl
  obtain ⟨l, hl, hp⟩ := list_of_each len _ each
  subst hl
  refine ⟨some a, l, cap, rfl, hlc, hcm, ?_, fun d hd => ?_⟩
  · by_cases hn : l = []
    · exact .inl hn
    · have h0 : 0 < l.length := List.length_pos_iff.2 hn
      obtain ⟨_, h1, _, _⟩ := hp 0 _ (List.getElem?_eq_getElem h0)
      rw [Nat.zero_mul] at h1
      obtain ⟨b, off, spot⟩ := a
      have hspot : spot = none := by simpa [Addr.add] using World.cell?_spot h1
      subst hspot
      refine .inr ⟨b, off, rfl, ?_, fun i d hd j v hv => ?_⟩
      · have := World.block_lt_of_cell? _ _ h1
        simpa [Addr.add] using this
      · obtain ⟨_, p0, p1, p2⟩ := hp i d hd
        rw [addr_addn] at p0 p1 p2
        rcases j with _ | _ | _ | j
        · simp [doC] at hv; subst hv; simpa using p0
        · simp [doC] at hv; subst hv; simpa [Nat.add_assoc] using p1
        · simp [doC] at hv; subst hv; simpa [Nat.add_assoc] using p2
        · simp [doC] at hv
  · obtain ⟨i, hi'⟩ := List.mem_iff_getElem?.1 hd
    exact (hp i d hi').1

theorem laidOut : laidOutB Tryd.prog = true := by kernel_rfl

set_option maxRecDepth 100000 in
/-- WHAT THE WALK GIVES, FOR EVERY ARGUMENT AND EVERY WORLD THAT HOLDS THE LISTED VARIABLES. -/
theorem contract (H : Type) (enc : TypeId × Value → H) (W : World) (base : Nat) (args : Array Value) (ds gs : List (DataW H)) (before : List MemPlace)
    (hval : ∀ (j : Nat) t v, Tryd.f3.params[j]? = some t → args[j]? = some v → Value.okWide Tryd.prog W .any base t v)
    (hW : DataW.Whole enc Tryd.prog Tryd.f3.params.toList Rows.scriptPrintsSpec.vars false W args.toList ds gs before) (hL : laidMetH Tryd.prog Rows.scriptPrintsRow.laid W) (hsh : W.ShapedOpen Tryd.prog) :
    Calls Tryd.prog 3 args W fun e W' => ∃ v, e = .returned v ∧ Rows.scriptPrintsSpec.post enc Tryd.prog Tryd.f3 false true false false W args v W' := by
  have hW' := hW
  obtain ⟨p, q, hA0, hV, rfl, hfz, hnd⟩ := hW
  have hA : DataW.TrodAll enc Tryd.prog W 0 (fun _ => true) true Tryd.f3.params.toList args.toList ds p := hA0
  rw [Tryd.params3] at hA hval
  obtain ⟨v0, d0, rfl, rfl, h0⟩ := trodAll_one hA
  obtain ⟨rfl, rfl⟩ := trodVars_none hV
  obtain ⟨a0, len, cap, rfl⟩ := okWide_slice Tryd.underlying22 (hval 0 22 v0 rfl rfl)
  have h0k := h0
  obtain ⟨fuel, hf⟩ := h0
  clear hA0
  simp only [List.append_nil] at hW'
  have hlt : ∀ x ∈ p, x.block < W.heap.size := fun x hx => by simpa using hW'.lt x hx
  obtain ⟨A, l, c, hcs, hlc, hcm, hs, hwf⟩ := open_dos hf
  have hcs' : (Value.slice a0 len cap) = .slice A l.length c := by simpa [Value.cells] using hcs
  injection hcs' with e1 e2 e3
  subst e1 e2 e3
  rw [MakeChecks.laidMetH_plain _ _ _ (by kernel_rfl)] at hL
  refine (scriptPrints_calls a0 cap l W (env_of hL hsh) hs hlc hcm hwf).mono fun e W' ⟨he, hb⟩ => ?_
  subst he
  refine ⟨_, rfl, _, _, _, [], p, [], hW', ?_, ?_, rfl, hb.frame _, fun h => by cases h⟩
  · exact trodAll_mk1 (shut_bool Tryd.underlying4 _)
  · exact trodAll_mk1 (Below.trod laidOut (by kernel_rfl) (of_decide_eq_true (by kernel_rfl)) h0k hb hlt)

/-- A WORLD FOR THE WITNESS: all listed variables laid. -/
theorem laid_met (os : Os) (args : Array Value) : laidMetH Tryd.prog Rows.scriptPrintsRow.laid ((World.laidAll Tryd.prog os Rows.scriptPrintsRow.laid).forCall (fun _ _ => 0) ⟨#[], args, []⟩).memory := by
  rw [MakeChecks.laidMetH_plain _ _ _ (by kernel_rfl)]
  exact laidMet_laidAll _ (by kernel_rfl) (by kernel_rfl)
theorem shaped (os : Os) : ((World.laidAll Tryd.prog os Rows.scriptPrintsRow.laid).forCall (fun _ _ => 0) ⟨#[], #[.slice none 0 0], []⟩).Shaped Tryd.prog :=
  World.shaped_of_ZipB (by kernel_rfl) (by kernel_rfl)
theorem reads (os : Os) {H : Type} (enc : TypeId × Value → H) : ∃ places, DataW.whole enc Tryd.prog ((World.laidAll Tryd.prog os Rows.scriptPrintsRow.laid).forCall (fun _ _ => 0) ⟨#[], #[.slice none 0 0], []⟩).memory Tryd.f3.params.toList Rows.scriptPrintsSpec.vars false #[Value.slice none 0 0].toList 8 = some ([.nil], [], places) :=
  ⟨[], by kernel_rfl⟩

set_option maxRecDepth 100000 in
theorem lifted (os : Os) (started : os.Started) (H : Type) (enc : TypeId × Value → H) (F : Stop.Interp) :
    ReturnsInHanded {} Tryd.checked os 3 .any ((OpenSpec.ofChange Rows.scriptPrintsSpec).preRow enc Tryd.prog Tryd.f3 Rows.scriptPrintsRow.domain false Rows.scriptPrintsRow.laid) (((OpenSpec.ofChange Rows.scriptPrintsSpec).at F).post enc Tryd.prog Tryd.f3 false true false false) := by
  obtain ⟨places, hx⟩ := reads os enc
  have hok : Input.okWideB Tryd.checked.prog ((World.laidAll Tryd.prog os Rows.scriptPrintsRow.laid).forCall (fun _ _ => 0) ⟨#[], #[.slice none 0 0], []⟩) 3 ⟨#[], #[.slice none 0 0], []⟩ = true := by kernel_rfl
  refine returnsInHanded_of_row (C := Tryd.checked) (s := OpenSpec.ofChange Rows.scriptPrintsSpec) own started (by kernel_rfl) Tryd.func3
    ⟨World.laidAll Tryd.prog os Rows.scriptPrintsRow.laid, fun _ _ => 0, ⟨#[], #[.slice none 0 0], []⟩, World.laidAll_os _ _ _, shaped os, (Input.okWide_of_okWideB (base := 0) hok).1, (Input.okWide_of_okWideB hok).2,
      OpenSpec.preRow_of_cond 8 hx (by kernel_rfl) (fun k hk => by cases hk) (by kernel_rfl) (laid_met os _), by simp [Assume.holds]⟩ ?_
  intro W base args ds gs before hval hW _ _ _ hL hsh _
  exact contract H enc W base args ds gs before hval hW hL hsh

theorem said : Rows.ScriptPrintsSaid :=
  OpenClaim.holds_of_cond 3 Tryd.f3 rfl rfl rfl rfl rfl rfl rfl ⟨rfl, rfl, rfl, rfl, rfl⟩ rfl rfl rfl rfl rfl (by kernel_rfl) Tryd.func3 (by kernel_rfl)
    (of_decide_eq_true (by kernel_rfl)) (by unfold Func.isWrapper; first | (rw [if_pos (by decide +kernel)]; kernel_rfl) | (rw [if_neg (by decide +kernel)]; exact ⟨rfl, rfl⟩))
    (fun os started H enc _ F => by rw [OpenClaim.pre_eq_preRow]; exact lifted os started H enc F)

/-- No parameter wants a stand-in; the program's own looks are on: what the card asks. -/
theorem plain (f : FuncId) (fn : Func) (hf : Tryd.pinned.checked.prog.funcNamed "boomerang/boomeranglaw21.ScriptPrints" = some f) (hfn : Tryd.pinned.checked.prog.funcs[f]? = some fn) :
    true = Tryd.pinned.checked.prog.looks [] ∧ ∀ (j : Nat) t, fn.params[j]? = some t → Tryd.pinned.checked.prog.wantsStandIn t = false := by
  obtain rfl : f = 3 := Option.some.inj ((show Tryd.prog.funcNamed "boomerang/boomeranglaw21.ScriptPrints" = some 3 by kernel_rfl).symm.trans hf) |>.symm
  obtain rfl : fn = Tryd.f3 := (Option.some.inj (Tryd.func3.symm.trans hfn)).symm
  refine ⟨by kernel_rfl, fun j t ht => ?_⟩
  rw [Tryd.params3] at ht
  obtain rfl : t = 22 := by simpa using Array.mem_of_getElem? ht
  exact (show Tryd.prog.wantsStandIn 22 = false by kernel_rfl)

/-- THE CARD -/
theorem card : Rows.ScriptPrintsCardSaid :=
  Claim7.holds_tied_plain_at .later [] _ _ _ _ said (fun _ h => by cases h) (by kernel_rfl) (fun _ h => by cases h) scriptPrints_row_tie rfl ⟨rfl, rfl⟩ (by kernel_rfl) rfl plain (by kernel_rfl)
end Go.Proofs.YtmchngdgngcllaaDoor.scriptPrints
namespace Go.Proofs.YtmchngdgngcllaaDoor
/-- The card of ScriptPrints. -/
theorem scriptPrints_card : Rows.ScriptPrintsCardSaid := scriptPrints.card
#print axioms scriptPrints_card
end Go.Proofs.YtmchngdgngcllaaDoor
