/- The contract of script.Print of things that may all be told: their text. -/
import Derived.Test.YtmchngdgngcllaaDoorScPrint
namespace Go.Proofs.YtmchngdgngcllaaDoor
open Go.RowKit Go.Lib Go.Sort

def I64 (n : Int) : Prop := -9223372036854775808 ≤ n ∧ n ≤ 9223372036854775807
def sliceLen : Value → Nat | .slice _ n _ => n | _ => 0
def Pow10 (w : World) : Prop := Lib.TabIs Tryd.prog w "internal/strconv.uint64pow10" .u64 Lib.pow10Tab
theorem Pow10.below {w w' : World} {B : Nat} (h : Pow10 w) (hb : Below B w w') (hB : w.heap.size ≤ B) : Pow10 w' :=
  Joins.tab_stays (g := 1) (by kernel_rfl) h hb hB

theorem text_calls (d : Sc.D) (w : World) (hf : Forms w) (ht : Pow10 w) (h0 : 0 ≤ d.x) (h1 : d.x ≤ 3) (ha : I64 d.a) (hb : I64 d.b) :
    Calls Tryd.prog 13 #[doV d] w fun e w' => e = .returned (strV (Sc.text d)) ∧ Below w.heap.size w w' := by
  obtain ⟨x, a, b⟩ := d
  exact text_core x a b (itoa a) (itoa b) w hf h0 h1 (itoa_length_le a ha.1 ha.2) (itoa_length_le b hb.1 hb.2)
    (fun w' hw => itoa_calls a w' ha.1 ha.2 (ht.below hw (Nat.le_refl _))) (fun w' hw => itoa_calls b w' hb.1 hb.2 (ht.below hw (Nat.le_refl _)))

theorem text_len (d : Sc.D) (ha : I64 d.a) (hb : I64 d.b) : (Sc.text d).length ≤ 60 := by
  have h1 := itoa_length_le d.a ha.1 ha.2
  have h2 := itoa_length_le d.b hb.1 hb.2
  have h3 : (Sc.word d.x).length ≤ 7 := by unfold Sc.word; split <;> (try split) <;> (try split) <;> simp
  simp only [Sc.text, List.length_append]
  split <;> split <;> simp <;> omega

theorem print_tail {bs P : List UInt8} {d : Sc.D} {r : List Sc.D} {j : Nat} (h : bs ++ Sc.printL (d :: r) = P) (hz : Sc.runLen 4094 d r + 1 = j) :
    ((bs ++ Sc.text d) ++ Sc.times j ++ [10]) ++ Sc.printL ((d :: r).drop j) = P := by
  rw [← h, Sc.printL]
  subst hz
  rw [List.drop_succ_cons, Nat.add_comm 1]
  simp
theorem times_one {j : Nat} (h : ¬ 1 < j) : Sc.times j = [] := if_neg h
theorem times_more {j : Nat} (h : 1 < j) : Sc.times j = 32 :: 120 :: itoa (j : Int) := if_pos h

theorem addr_add0 (b off n : Nat) : (⟨b, off, none⟩ : Addr).add n = ⟨b, off + n, none⟩ := by
  unfold Addr.add
  split
  · rename_i h; rw [h]; rfl
  · rfl
theorem slice_cut {α : Type} {enc : α → List Value} {k : Nat} {w : World} {B : Nat} {b off : Nat} {l : List α} (h : SliceAt enc k w B (some ⟨b, off, none⟩) l) {n cap : Nat} (hcap : l.length ≤ cap) (hn : ¬ cap = n) :
    SliceAt enc k w B (some ⟨b, off + n * k, none⟩) (l.drop n) := by
  have := h.cut (n := n) hcap
  rw [if_neg hn] at this
  simpa [addr_add0] using this
theorem slice_cut_if {α : Type} {enc : α → List Value} {k : Nat} {w : World} {B : Nat} {b off : Nat} {l : List α} (h : SliceAt enc k w B (some ⟨b, off, none⟩) l) {n cap : Nat} (hcap : l.length ≤ cap) :
    SliceAt enc k w B (if cap = n then some ⟨b, off, none⟩ else some ⟨b, off + n * k, none⟩) (l.drop n) := by
  have := h.cut (n := n) hcap
  simpa [addr_add0] using this

theorem strCells_mk (l : List UInt8) : Lib.strCells ⟨l.toArray⟩ = Lib.byteCells l := rfl
theorem ws_calls (bb : Nat) (bs l : List UInt8) (w : World) (h : Lib.IsBuilderF 41 5 bb bb (byteCells bs) w) (hlen : bs.length + l.length ≤ 1000000000) (hBw : bb ≤ w.heap.size) :
    Calls Tryd.prog 12 #[.pointer (some ⟨bb, 0, none⟩), .string ⟨l.toArray⟩] w fun e w' => (∃ v, e = .returned v) ∧ Lib.IsBuilderF 41 5 bb bb (byteCells (bs ++ l)) w' ∧ Below bb w w' := by
  refine (Tryd.Builder_WriteString_k bb bb (byteCells bs) ⟨l.toArray⟩ w h ?_ hBw).mono ?_
  · have : (⟨l.toArray⟩ : ByteArray).size = l.length := by simp [ByteArray.size]
    rw [this, byteCells_length]
    omega
  · rintro e w' ⟨rfl, h1, h2, _⟩
    refine ⟨⟨_, rfl⟩, ?_, h2⟩
    rw [strCells_mk, ← byteCells_append] at h1
    exact .inr h1

set_option maxRecDepth 100000 in
set_option maxHeartbeats 1000000 in
theorem print_ok (A : Option Addr) (c : Nat) (l : List Sc.D) (w : World) (hl : SliceAt doC 3 w w.heap.size A l) (hn : l.length ≤ 4096) (hcap : l.length ≤ c) (hcm : c ≤ maxLen) (hf : Forms w) (ht : Pow10 w)
    (hok : ∀ d ∈ l, Sc.may d) (hwf : ∀ d ∈ l, I64 d.a ∧ I64 d.b) :
    Calls Tryd.prog 5 #[.slice A l.length c] w fun e w' => e = .returned (.tuple #[strV (Sc.printL l), .int .i64 0]) ∧ Below w.heap.size w w' := by
  go_enter Tryd.func5, Tryd.ntmps5
  go_wp2_with fail
  go_loopw [10] (fun i wr => ∃ k : Nat, k ≤ l.length ∧ i = .int .i64 k ∧ Below w.heap.size w wr) (fun i _ => l.length - (intOf i).toNat)
  case atStart => exact ⟨0, Nat.zero_le _, rfl, Below.refl _ _⟩
  case round =>
    obtain ⟨k, hk, rfl, hb⟩ := hrel
    have hbs := hb.size
    by_cases hlt : k < l.length
    · have hd : l[k]? = some l[k] := List.getElem?_eq_getElem hlt
      have hm : Sc.may l[k] := hok _ (List.getElem_mem hlt)
      generalize l[k] = d at hd hm
      obtain ⟨b, off, rfl, hbB, h0, h1, h2⟩ := doC_at hl hd
      obtain ⟨hcc, _⟩ := bcell hb
      have hM : ∀ o : Obj, Calls Tryd.prog 10 #[.agg #[.int .i64 d.x, .int .i64 d.a, .int .i64 d.b]] (wr.alloc o) fun e w' => e = .returned (.bool true) ∧ Below (wr.heap.size + 1) (wr.alloc o) w' := fun o => by
        have := may_calls d (wr.alloc o) (hf.below (hb.alloc hb.size _) (Nat.le_refl _))
        rw [decide_eq_true hm] at this
        simpa [doV] using this
      clear hd hl hm
      go_wp2_with (go_at_call 10; refine (hM _).mono ?_; rintro e w1 ⟨rfl, hb1⟩)
      go_roundw
      case rel => exact ⟨k + 1, by omega, by go_num, (hb.alloc hb.size _).trans (hb1.mono (by omega))⟩
      case measure => simp [intOf]; omega
    · have hlt' : ¬ (k : Int) < l.length := by omega
      clear hlt hk
      have hlen : ¬ (4096 : Int) < l.length := by omega
      go_wp2_with fail
      have hB0 : Lib.IsBuilderF 41 5 wr.heap.size wr.heap.size (byteCells []) (wr.alloc (.cells #[.pointer none, .slice none 0 0] 41)) := Lib.IsBuilderF.of (Lib.fresh_isBuilder _ _ wr)
      have hb0 : Below w.heap.size w (wr.alloc (.cells #[.pointer none, .slice none 0 0] 41)) := hb.alloc hb.size _
      clear hb hlt' hlen
      generalize wr.heap.size = bb at hB0 hbs ⊢
      generalize wr.alloc (.cells #[.pointer none, .slice none 0 0] 41) = W1 at hB0 hb0 ⊢
      go_loopw [0] (fun v wr => ∃ (k : Nat) (A' : Option Addr) (c' : Nat) (bs : List UInt8), k ≤ l.length ∧ l.length - k ≤ c' ∧ c' ≤ maxLen ∧ v = .slice A' (l.length - k) c' ∧ SliceAt doC 3 w w.heap.size A' (l.drop k) ∧
          Lib.IsBuilderF 41 5 bb bb (byteCells bs) wr ∧ bs ++ Sc.printL (l.drop k) = Sc.printL l ∧ bs.length ≤ k * 100 ∧ Below w.heap.size w wr) (fun v _ => sliceLen v)
      case atStart => exact ⟨0, A, c, [], Nat.zero_le _, by simpa using hcap, hcm, by simp, by simpa using hl, hB0, by simp, by simp, hb0⟩
      case round =>
        rename_i k0 _ wr0
        obtain ⟨k, A', c', bs, hk, hkc, hcm', rfl, hsl, hB, hbs2, hbl, hb⟩ := hrel
        by_cases hlt : k < l.length
        · have hdr : ∃ d r, l.drop k = d :: r := by
            cases h : l.drop k with
            | nil => rw [List.drop_eq_nil_iff] at h; omega
            | cons d r => exact ⟨d, r, rfl⟩
          obtain ⟨d, r, hdr⟩ := hdr
          have hlr : (d :: r).length = l.length - k := by rw [← hdr, List.length_drop]
          have hmem : ∀ (j : Nat) (e : Sc.D), (d :: r)[j]? = some e → e ∈ l := fun j e h => List.mem_of_mem_drop (i := k) (by rw [hdr]; exact List.mem_of_getElem? h)
          have hd0 : (d :: r)[0]? = some d := rfl
          have hdm := hok d (hmem 0 d hd0)
          have hdw := hwf d (hmem 0 d hd0)
          have hdx : 0 ≤ d.x ∧ d.x ≤ 3 := ⟨hdm.1, hdm.2.1⟩
          rw [hdr] at hsl hbs2
          have hpl : (0 : Int) < ((l.length - k : Nat) : Int) := by omega
          have Hbs := Lib.hid hbs2
          have Hdr := Lib.hid hdr
          have Hlr := Lib.hid hlr
          obtain ⟨b, off, rfl, hbB, q0, q1, q2⟩ := doC_at hsl hd0
          simp only [Nat.zero_mul, Nat.add_zero] at q0 q1 q2
          clear hbs2 hdr hlr hd0
          generalize hm : l.length - k = m at *
          have Hm := Lib.hid hm
          clear hm
          have hpm : 0 < m := by omega
          obtain ⟨wo, rfl⟩ : ∃ wo : World, wo = wr := ⟨_, rfl⟩
          go_wp2_with fail
          go_loopw [7] (fun nv wr3 => ∃ j : Nat, 1 ≤ j ∧ j ≤ m ∧ nv = .int .i64 j ∧ Sc.runLen 4094 d r = (j - 1) + Sc.runLen (4095 - j) d (r.drop (j - 1)) ∧ Below wo.heap.size wo wr3) (fun nv _ => m - (intOf nv).toNat)
          case atStart => exact ⟨1, Nat.le_refl _, by omega, rfl, by simp, Below.refl _ _⟩
          case round =>
            obtain ⟨j, hj1, hjm, rfl, hrun, hb3⟩ := hrel
            have Hrun := Lib.hid hrun
            clear hrun
            have hwm : w.heap.size ≤ wo.heap.size := hb.size
            have hbw : Below w.heap.size w wr := hb.trans (hb3.mono hwm)
            have hfo := hf.below hbw (Nat.le_refl _)
            have hto := ht.below hbw (Nat.le_refl _)
            have q0' := (hbw.cell (p := ⟨b, off, none⟩) hbB).trans q0
            have q1' := (hbw.cell (p := ⟨b, off + 1, none⟩) hbB).trans q1
            have q2' := (hbw.cell (p := ⟨b, off + 2, none⟩) hbB).trans q2
            by_cases hgo : j < m ∧ j < 4095 ∧ ∃ e, (d :: r)[j]? = some e ∧ Sc.told e = Sc.told d
            · obtain ⟨hjm', hj4, e, he, hte⟩ := hgo
              have hem := hok e (hmem j e he)
              obtain ⟨b2, off2, e2, hb2, p0, p1, p2⟩ := doC_at hsl he
              obtain ⟨rfl, rfl⟩ : b = b2 ∧ off = off2 := by
                injection e2 with e2
                injection e2 with x1 x2 x3
                exact ⟨x1, x2⟩
              have p0' := (hbw.cell (p := ⟨b, off + j * 3, none⟩) hbB).trans p0
              have p1' := (hbw.cell (p := ⟨b, off + j * 3 + 1, none⟩) hbB).trans p1
              have p2' := (hbw.cell (p := ⟨b, off + j * 3 + 2, none⟩) hbB).trans p2
              have Hstep := Lib.hid (Sc.runLen_step hj1 hj4 he hte)
              clear he e2 p0 p1 p2 q0 q1 q2
              have c1 : ∀ dr os, Calls Tryd.prog 11 #[.agg #[.int .i64 e.x, .int .i64 e.a, .int .i64 e.b]] (grow (redrawn wr dr) os) fun e' w'' => e' = .returned (doV (Sc.told e)) ∧ ∃ p : Regrown, w'' = grow (redrawn wr p.d) p.os :=
                fun dr os => Calls.regrown_of (told_calls e _ (hfo.below (below_regrown wr dr os) (Nat.le_refl _)) hem.1 hem.2.1)
              have c2 : ∀ dr os, Calls Tryd.prog 11 #[.agg #[.int .i64 d.x, .int .i64 d.a, .int .i64 d.b]] (grow (redrawn wr dr) os) fun e' w'' => e' = .returned (doV (Sc.told d)) ∧ ∃ p : Regrown, w'' = grow (redrawn wr p.d) p.os :=
                fun dr os => Calls.regrown_of (told_calls d _ (hfo.below (below_regrown wr dr os) (Nat.le_refl _)) hdx.1 hdx.2)
              rw [hte] at c1
              clear hte
              have k0 := fun dr os => cell_regrown q0' dr os
              have k1 := fun dr os => cell_regrown q1' dr os
              have k2 := fun dr os => cell_regrown q2' dr os
              have l0 := fun dr os => cell_regrown p0' dr os
              have l1 := fun dr os => cell_regrown p1' dr os
              have l2 := fun dr os => cell_regrown p2' dr os
              have heq : ∀ W, (binOp .eql 36 (doV (Sc.told d)) (doV (Sc.told d))).run Tryd.prog W = .ok (.bool true) W := fun W => by rw [eql_do]; simp
              have hgd : ∀ (x y : Operand) (W : World), (eqGuard .eql 36 x y (doV (Sc.told d)) (doV (Sc.told d))).run Tryd.prog W = .ok () W := fun x y W => run_eqGuard_agg W _ _ x y _ _ (by kernel_rfl)
              have t1 : (j : Int) < (m : Int) := by omega
              have t2 : (j : Int) < 4095 := by omega
              go_wp2_with fail
              refine wp_region_quiet_below (by kernel_rfl) (by kernel_rfl) ?_
              repeat (quiet_step (first | (with_reducible exact c1 _ _) | (with_reducible exact c2 _ _)))
              refine wpQuiet_nil ?_
              intro _ hw'
              obtain ⟨⟨dq, osq⟩, hw''⟩ := hw'
              subst hw''
              have hbq := below_regrown wr dq osq
              clear c1 c2 k0 k1 k2 l0 l1 l2 heq hgd
              go_wp2_with fail
              go_roundw
              case rel => exact ⟨j + 1, by omega, by omega, by go_num, by rw [Hrun.out, Hstep.out]; omega, hb3.trans (hbq.mono hb3.size)⟩
              case measure => simp [intOf]; omega
            · have hz : Sc.runLen 4094 d r + 1 = j := by
                rw [Hrun.out, Sc.runLen_stop hj1 (by rw [Hlr.out]; exact hgo)]
                omega
              have hle := Sc.runLen_le 4094 d r
              have hbld := builder_below hB hb3
              have hTl := text_len d hdw.1 hdw.2
              have hcase : ¬ j < m ∨ (j < m ∧ ¬ j < 4095) ∨ (j < m ∧ j < 4095 ∧ ∃ e, (d :: r)[j]? = some e ∧ Sc.told e ≠ Sc.told d) := by
                by_cases a1 : j < m
                · by_cases a2 : j < 4095
                  · refine .inr (.inr ⟨a1, a2, ?_⟩)
                    have a3 : j < (d :: r).length := by rw [Hlr.out]; exact a1
                    exact ⟨_, List.getElem?_eq_getElem a3, fun e => hgo ⟨a1, a2, _, List.getElem?_eq_getElem a3, e⟩⟩
                  · exact .inr (.inl ⟨a1, a2⟩)
                · exact .inl a1
              clear hgo
              have k0 := fun dr os => cell_regrown q0' dr os
              have k1 := fun dr os => cell_regrown q1' dr os
              have k2 := fun dr os => cell_regrown q2' dr os
              rcases hcase with t1 | ⟨t1, t2⟩ | ⟨t1, t2, e, he, hte⟩
              · have t1' : decide (j < m) = false := by simpa using t1
                clear k0 k1 k2
                go_wp2_with fail
                refine wp_region_quiet_below (by kernel_rfl) (by kernel_rfl) ?_
                repeat (go_big_quiet_step (fail))
                refine wpQuiet_nil ?_
                intro _ hw'
                obtain ⟨⟨dq, osq⟩, hw''⟩ := hw'
                subst hw''
                have hbq := below_regrown wr dq osq
                generalize grow (redrawn wr dq) osq = wq at hbq ⊢
                have hbqs := hbq.size
                have hwrs := hb3.size
                have s0 := (hbq.cell (p := ⟨b, off, none⟩) (by simp; omega)).trans q0'
                have s1 := (hbq.cell (p := ⟨b, off + 1, none⟩) (by simp; omega)).trans q1'
                have s2 := (hbq.cell (p := ⟨b, off + 2, none⟩) (by simp; omega)).trans q2'
                have hto' := hto.below hbq (Nat.le_refl _)
                have hT := text_calls d wq (hfo.below hbq (Nat.le_refl _)) hto' hdx.1 hdx.2 hdw.1 hdw.2
                have hBq := builder_below hbld hbq
                have hbl1 := builder_lt hBq
                unfold doV strV at hT
                clear q0 q1 q2 q0' q1' q2'
                go_wp2_with fail
                refine hT.mono ?_
                rintro e1 w2 ⟨rfl, hb2⟩
                clear hT s0 s1 s2
                have hB2 := builder_below hBq hb2
                have hs2 := hb2.size
                go_wp2_with fail
                refine (ws_calls bb bs (Sc.text d) w2 hB2 (by omega) (by omega)).mono ?_
                rintro e3 w3 ⟨⟨v3, rfl⟩, hB3, hb3'⟩
                clear hBq hB2 hbld
                have hs3 := hb3'.size
                have hbw3 : Below w.heap.size w w3 := ((hbw.trans (hbq.mono (by omega))).trans (hb2.mono (by omega))).trans (hb3'.mono (by omega))
                have hto3 : Pow10 w3 := ht.below hbw3 (Nat.le_refl _)
                have hslice : ∀ W, (Instr.slice 22 (.slice (some ⟨b, off, none⟩) m c') (some (.int .i64 j)) none none).run Tryd.prog W = .ok (.slice (if c' = j then some ⟨b, off, none⟩ else (some ⟨b, off, none⟩ : Option Addr).map (·.add (j * 3))) (m - j) (c' - j)) W := fun W => by
                  simp [Instr.slice, Instr.sliceBounds, run_underlying Tryd.underlying22, Tryd.sizeOf36, go_sem, hjm]
                by_cases hj : 1 < j
                · have hj' : (1 : Int) < j := by omega
                  have hil := itoa_length_le (j : Int) (by omega) (by omega)
                  have hil2 : ¬ 9223372036854775807 < 2 + (itoa (j : Int)).length := by omega
                  go_wp2_with fail
                  refine (itoa_calls (j : Int) w3 (by omega) (by omega) hto3).mono ?_
                  rintro e4 w4 ⟨rfl, hb4⟩
                  have hB4 := builder_below hB3 hb4
                  have hs4 := hb4.size
                  have ecat := ba_lists [32, 120] (itoa (j : Int))
                  unfold strV
                  go_wp2_with fail
                  refine (ws_calls bb (bs ++ Sc.text d) (32 :: 120 :: itoa (j : Int)) w4 hB4 (by simp; omega) (by omega)).mono ?_
                  rintro e5 w5 ⟨⟨v5, rfl⟩, hB5, hb5⟩
                  have hs5 := hb5.size
                  clear ecat
                  go_wp2_with fail
                  refine (ws_calls bb _ [10] w5 hB5 (by simp; omega) (by omega)).mono ?_
                  rintro e6 w6 ⟨⟨v6, rfl⟩, hB6, hb6⟩
                  go_wp2_with fail
                  go_roundw
                  case rel =>
                    have hdd : l.drop (k + j) = (d :: r).drop j := by rw [← List.drop_drop, Hdr.out]
                    have hpt := print_tail Hbs.out hz
                    rw [times_more hj] at hpt
                    have hm' := Hm.out
                    refine ⟨k + j, _, c' - j, _, by omega, by omega, by omega, by rw [show m - j = l.length - (k + j) from by omega], by rw [hdd]; first | exact slice_cut_if hsl (by rw [Hlr.out]; omega) | exact slice_cut hsl (by rw [Hlr.out]; exact hkc) (by omega), hB6, by rw [hdd]; exact hpt, by simp; omega, ((hbw3.trans (hb4.mono (by omega))).trans (hb5.mono hbs)).trans (hb6.mono hbs)⟩
                  case measure => simp [sliceLen]; omega
                · first
                  | (exfalso; omega)
                  | skip
                  all_goals
                    have hj' : ¬ (1 : Int) < j := by omega
                    go_wp2_with fail
                    refine (ws_calls bb _ [10] w3 hB3 (by simp; omega) (by omega)).mono ?_
                    rintro e6 w6 ⟨⟨v6, rfl⟩, hB6, hb6⟩
                    go_wp2_with fail
                    go_roundw
                    case rel =>
                      have hdd : l.drop (k + j) = (d :: r).drop j := by rw [← List.drop_drop, Hdr.out]
                      have hpt := print_tail Hbs.out hz
                      rw [times_one hj, List.append_nil] at hpt
                      have hm' := Hm.out
                      refine ⟨k + j, _, c' - j, _, by omega, by omega, by omega, by rw [show m - j = l.length - (k + j) from by omega], by rw [hdd]; first | exact slice_cut_if hsl (by rw [Hlr.out]; omega) | exact slice_cut hsl (by rw [Hlr.out]; exact hkc) (by omega), hB6, by rw [hdd]; exact hpt, by simp; omega, hbw3.trans (hb6.mono hbs)⟩
                    case measure => simp [sliceLen]; omega
              · have t2' : decide ((j : Int) < 4095) = false := by simp; omega
                clear k0 k1 k2
                go_wp2_with fail
                refine wp_region_quiet_below (by kernel_rfl) (by kernel_rfl) ?_
                repeat (go_big_quiet_step (fail))
                refine wpQuiet_nil ?_
                intro _ hw'
                obtain ⟨⟨dq, osq⟩, hw''⟩ := hw'
                subst hw''
                have hbq := below_regrown wr dq osq
                generalize grow (redrawn wr dq) osq = wq at hbq ⊢
                have hbqs := hbq.size
                have hwrs := hb3.size
                have s0 := (hbq.cell (p := ⟨b, off, none⟩) (by simp; omega)).trans q0'
                have s1 := (hbq.cell (p := ⟨b, off + 1, none⟩) (by simp; omega)).trans q1'
                have s2 := (hbq.cell (p := ⟨b, off + 2, none⟩) (by simp; omega)).trans q2'
                have hto' := hto.below hbq (Nat.le_refl _)
                have hT := text_calls d wq (hfo.below hbq (Nat.le_refl _)) hto' hdx.1 hdx.2 hdw.1 hdw.2
                have hBq := builder_below hbld hbq
                have hbl1 := builder_lt hBq
                unfold doV strV at hT
                clear q0 q1 q2 q0' q1' q2'
                go_wp2_with fail
                refine hT.mono ?_
                rintro e1 w2 ⟨rfl, hb2⟩
                clear hT s0 s1 s2
                have hB2 := builder_below hBq hb2
                have hs2 := hb2.size
                go_wp2_with fail
                refine (ws_calls bb bs (Sc.text d) w2 hB2 (by omega) (by omega)).mono ?_
                rintro e3 w3 ⟨⟨v3, rfl⟩, hB3, hb3'⟩
                clear hBq hB2 hbld
                have hs3 := hb3'.size
                have hbw3 : Below w.heap.size w w3 := ((hbw.trans (hbq.mono (by omega))).trans (hb2.mono (by omega))).trans (hb3'.mono (by omega))
                have hto3 : Pow10 w3 := ht.below hbw3 (Nat.le_refl _)
                have hslice : ∀ W, (Instr.slice 22 (.slice (some ⟨b, off, none⟩) m c') (some (.int .i64 j)) none none).run Tryd.prog W = .ok (.slice (if c' = j then some ⟨b, off, none⟩ else (some ⟨b, off, none⟩ : Option Addr).map (·.add (j * 3))) (m - j) (c' - j)) W := fun W => by
                  simp [Instr.slice, Instr.sliceBounds, run_underlying Tryd.underlying22, Tryd.sizeOf36, go_sem, hjm]
                by_cases hj : 1 < j
                · have hj' : (1 : Int) < j := by omega
                  have hil := itoa_length_le (j : Int) (by omega) (by omega)
                  have hil2 : ¬ 9223372036854775807 < 2 + (itoa (j : Int)).length := by omega
                  go_wp2_with fail
                  refine (itoa_calls (j : Int) w3 (by omega) (by omega) hto3).mono ?_
                  rintro e4 w4 ⟨rfl, hb4⟩
                  have hB4 := builder_below hB3 hb4
                  have hs4 := hb4.size
                  have ecat := ba_lists [32, 120] (itoa (j : Int))
                  unfold strV
                  go_wp2_with fail
                  refine (ws_calls bb (bs ++ Sc.text d) (32 :: 120 :: itoa (j : Int)) w4 hB4 (by simp; omega) (by omega)).mono ?_
                  rintro e5 w5 ⟨⟨v5, rfl⟩, hB5, hb5⟩
                  have hs5 := hb5.size
                  clear ecat
                  go_wp2_with fail
                  refine (ws_calls bb _ [10] w5 hB5 (by simp; omega) (by omega)).mono ?_
                  rintro e6 w6 ⟨⟨v6, rfl⟩, hB6, hb6⟩
                  go_wp2_with fail
                  go_roundw
                  case rel =>
                    have hdd : l.drop (k + j) = (d :: r).drop j := by rw [← List.drop_drop, Hdr.out]
                    have hpt := print_tail Hbs.out hz
                    rw [times_more hj] at hpt
                    have hm' := Hm.out
                    refine ⟨k + j, _, c' - j, _, by omega, by omega, by omega, by rw [show m - j = l.length - (k + j) from by omega], by rw [hdd]; first | exact slice_cut_if hsl (by rw [Hlr.out]; omega) | exact slice_cut hsl (by rw [Hlr.out]; exact hkc) (by omega), hB6, by rw [hdd]; exact hpt, by simp; omega, ((hbw3.trans (hb4.mono (by omega))).trans (hb5.mono hbs)).trans (hb6.mono hbs)⟩
                  case measure => simp [sliceLen]; omega
                · first
                  | (exfalso; omega)
                  | skip
                  all_goals
                    have hj' : ¬ (1 : Int) < j := by omega
                    go_wp2_with fail
                    refine (ws_calls bb _ [10] w3 hB3 (by simp; omega) (by omega)).mono ?_
                    rintro e6 w6 ⟨⟨v6, rfl⟩, hB6, hb6⟩
                    go_wp2_with fail
                    go_roundw
                    case rel =>
                      have hdd : l.drop (k + j) = (d :: r).drop j := by rw [← List.drop_drop, Hdr.out]
                      have hpt := print_tail Hbs.out hz
                      rw [times_one hj, List.append_nil] at hpt
                      have hm' := Hm.out
                      refine ⟨k + j, _, c' - j, _, by omega, by omega, by omega, by rw [show m - j = l.length - (k + j) from by omega], by rw [hdd]; first | exact slice_cut_if hsl (by rw [Hlr.out]; omega) | exact slice_cut hsl (by rw [Hlr.out]; exact hkc) (by omega), hB6, by rw [hdd]; exact hpt, by simp; omega, hbw3.trans (hb6.mono hbs)⟩
                    case measure => simp [sliceLen]; omega
              · have hem := hok e (hmem j e he)
                obtain ⟨b2, off2, e2, hb2, p0, p1, p2⟩ := doC_at hsl he
                obtain ⟨rfl, rfl⟩ : b = b2 ∧ off = off2 := by
                  injection e2 with e2
                  injection e2 with x1 x2 x3
                  exact ⟨x1, x2⟩
                have l0 := fun dr os => cell_regrown ((hbw.cell (p := ⟨b, off + j * 3, none⟩) hbB).trans p0) dr os
                have l1 := fun dr os => cell_regrown ((hbw.cell (p := ⟨b, off + j * 3 + 1, none⟩) hbB).trans p1) dr os
                have l2 := fun dr os => cell_regrown ((hbw.cell (p := ⟨b, off + j * 3 + 2, none⟩) hbB).trans p2) dr os
                clear he e2 p0 p1 p2
                have c1 : ∀ dr os, Calls Tryd.prog 11 #[.agg #[.int .i64 e.x, .int .i64 e.a, .int .i64 e.b]] (grow (redrawn wr dr) os) fun e' w'' => e' = .returned (doV (Sc.told e)) ∧ ∃ p : Regrown, w'' = grow (redrawn wr p.d) p.os :=
                  fun dr os => Calls.regrown_of (told_calls e _ (hfo.below (below_regrown wr dr os) (Nat.le_refl _)) hem.1 hem.2.1)
                have c2 : ∀ dr os, Calls Tryd.prog 11 #[.agg #[.int .i64 d.x, .int .i64 d.a, .int .i64 d.b]] (grow (redrawn wr dr) os) fun e' w'' => e' = .returned (doV (Sc.told d)) ∧ ∃ p : Regrown, w'' = grow (redrawn wr p.d) p.os :=
                  fun dr os => Calls.regrown_of (told_calls d _ (hfo.below (below_regrown wr dr os) (Nat.le_refl _)) hdx.1 hdx.2)
                have heq : ∀ W, (binOp .eql 36 (doV (Sc.told e)) (doV (Sc.told d))).run Tryd.prog W = .ok (.bool false) W := fun W => by rw [eql_do, decide_eq_false hte]
                have hgd : ∀ (x y : Operand) (W : World), (eqGuard .eql 36 x y (doV (Sc.told e)) (doV (Sc.told d))).run Tryd.prog W = .ok () W := fun x y W => run_eqGuard_agg W _ _ x y _ _ (by kernel_rfl)
                clear hte
                have t1' : (j : Int) < (m : Int) := by omega
                have t2' : (j : Int) < 4095 := by omega
                go_wp2_with fail
                refine wp_region_quiet_below (by kernel_rfl) (by kernel_rfl) ?_
                repeat (quiet_step (first | (with_reducible exact c1 _ _) | (with_reducible exact c2 _ _)))
                refine wpQuiet_nil ?_
                intro _ hw'
                obtain ⟨⟨dq, osq⟩, hw''⟩ := hw'
                subst hw''
                have hbq := below_regrown wr dq osq
                clear c1 c2 k0 k1 k2 l0 l1 l2 heq hgd
                generalize grow (redrawn wr dq) osq = wq at hbq ⊢
                have hbqs := hbq.size
                have hwrs := hb3.size
                have s0 := (hbq.cell (p := ⟨b, off, none⟩) (by simp; omega)).trans q0'
                have s1 := (hbq.cell (p := ⟨b, off + 1, none⟩) (by simp; omega)).trans q1'
                have s2 := (hbq.cell (p := ⟨b, off + 2, none⟩) (by simp; omega)).trans q2'
                have hto' := hto.below hbq (Nat.le_refl _)
                have hT := text_calls d wq (hfo.below hbq (Nat.le_refl _)) hto' hdx.1 hdx.2 hdw.1 hdw.2
                have hBq := builder_below hbld hbq
                have hbl1 := builder_lt hBq
                unfold doV strV at hT
                clear q0 q1 q2 q0' q1' q2'
                go_wp2_with fail
                refine hT.mono ?_
                rintro e1 w2 ⟨rfl, hb2⟩
                clear hT s0 s1 s2
                have hB2 := builder_below hBq hb2
                have hs2 := hb2.size
                go_wp2_with fail
                refine (ws_calls bb bs (Sc.text d) w2 hB2 (by omega) (by omega)).mono ?_
                rintro e3 w3 ⟨⟨v3, rfl⟩, hB3, hb3'⟩
                clear hBq hB2 hbld
                have hs3 := hb3'.size
                have hbw3 : Below w.heap.size w w3 := ((hbw.trans (hbq.mono (by omega))).trans (hb2.mono (by omega))).trans (hb3'.mono (by omega))
                have hto3 : Pow10 w3 := ht.below hbw3 (Nat.le_refl _)
                have hslice : ∀ W, (Instr.slice 22 (.slice (some ⟨b, off, none⟩) m c') (some (.int .i64 j)) none none).run Tryd.prog W = .ok (.slice (if c' = j then some ⟨b, off, none⟩ else (some ⟨b, off, none⟩ : Option Addr).map (·.add (j * 3))) (m - j) (c' - j)) W := fun W => by
                  simp [Instr.slice, Instr.sliceBounds, run_underlying Tryd.underlying22, Tryd.sizeOf36, go_sem, hjm]
                by_cases hj : 1 < j
                · have hj' : (1 : Int) < j := by omega
                  have hil := itoa_length_le (j : Int) (by omega) (by omega)
                  have hil2 : ¬ 9223372036854775807 < 2 + (itoa (j : Int)).length := by omega
                  go_wp2_with fail
                  refine (itoa_calls (j : Int) w3 (by omega) (by omega) hto3).mono ?_
                  rintro e4 w4 ⟨rfl, hb4⟩
                  have hB4 := builder_below hB3 hb4
                  have hs4 := hb4.size
                  have ecat := ba_lists [32, 120] (itoa (j : Int))
                  unfold strV
                  go_wp2_with fail
                  refine (ws_calls bb (bs ++ Sc.text d) (32 :: 120 :: itoa (j : Int)) w4 hB4 (by simp; omega) (by omega)).mono ?_
                  rintro e5 w5 ⟨⟨v5, rfl⟩, hB5, hb5⟩
                  have hs5 := hb5.size
                  clear ecat
                  go_wp2_with fail
                  refine (ws_calls bb _ [10] w5 hB5 (by simp; omega) (by omega)).mono ?_
                  rintro e6 w6 ⟨⟨v6, rfl⟩, hB6, hb6⟩
                  go_wp2_with fail
                  go_roundw
                  case rel =>
                    have hdd : l.drop (k + j) = (d :: r).drop j := by rw [← List.drop_drop, Hdr.out]
                    have hpt := print_tail Hbs.out hz
                    rw [times_more hj] at hpt
                    have hm' := Hm.out
                    refine ⟨k + j, _, c' - j, _, by omega, by omega, by omega, by rw [show m - j = l.length - (k + j) from by omega], by rw [hdd]; first | exact slice_cut_if hsl (by rw [Hlr.out]; omega) | exact slice_cut hsl (by rw [Hlr.out]; exact hkc) (by omega), hB6, by rw [hdd]; exact hpt, by simp; omega, ((hbw3.trans (hb4.mono (by omega))).trans (hb5.mono hbs)).trans (hb6.mono hbs)⟩
                  case measure => simp [sliceLen]; omega
                · first
                  | (exfalso; omega)
                  | skip
                  all_goals
                    have hj' : ¬ (1 : Int) < j := by omega
                    go_wp2_with fail
                    refine (ws_calls bb _ [10] w3 hB3 (by simp; omega) (by omega)).mono ?_
                    rintro e6 w6 ⟨⟨v6, rfl⟩, hB6, hb6⟩
                    go_wp2_with fail
                    go_roundw
                    case rel =>
                      have hdd : l.drop (k + j) = (d :: r).drop j := by rw [← List.drop_drop, Hdr.out]
                      have hpt := print_tail Hbs.out hz
                      rw [times_one hj, List.append_nil] at hpt
                      have hm' := Hm.out
                      refine ⟨k + j, _, c' - j, _, by omega, by omega, by omega, by rw [show m - j = l.length - (k + j) from by omega], by rw [hdd]; first | exact slice_cut_if hsl (by rw [Hlr.out]; omega) | exact slice_cut hsl (by rw [Hlr.out]; exact hkc) (by omega), hB6, by rw [hdd]; exact hpt, by simp; omega, hbw3.trans (hb6.mono hbs)⟩
                    case measure => simp [sliceLen]; omega
        · have hnil : l.drop k = [] := List.drop_eq_nil_of_le (by omega)
          have hz : l.length - k = 0 := by omega
          rw [hz]
          rw [hnil] at hbs2
          simp only [Sc.printL, List.append_nil] at hbs2
          clear hsl hnil hz hlt
          have hlt := builder_lt hB
          go_wp2_with fail
          refine (Tryd.Builder_String_any_k bb bb bs _ hB (by omega)).mono ?_
          rintro e w2 ⟨rfl, _, hb2, _⟩
          go_wp2_with fail
          go_ret2
          exact ⟨rfl, hb.trans (hb2.mono hbs)⟩
end Go.Proofs.YtmchngdgngcllaaDoor
