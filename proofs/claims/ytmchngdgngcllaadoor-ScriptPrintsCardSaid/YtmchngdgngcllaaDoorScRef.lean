/- The contract of the reference's Print: of things that may all be told, the text of them; else ErrRange. -/
import Derived.Test.YtmchngdgngcllaaDoorScPrint2
import Derived.Test.YtmchngdgngcllaaDoorScDec
namespace Go.Proofs.YtmchngdgngcllaaDoor
open Go.RowKit Go.Lib Go.Sort

theorem eql_rdo (d e : Sc.D) (w : World) : (binOp .eql 35 (doV d) (doV e)).run Tryd.prog w = .ok (.bool (decide (d = e))) w := by
  have u3 := Tryd.underlying3
  have a3 := Tryd.isAgg3
  have z3 := Tryd.sizeOf3
  have hS : Tryd.prog.underlying 35 = some (.struct (Tryd.prog.fieldsOf 35)) := by kernel_rfl
  have hp : Tryd.prog.stoodInHeld 35 = false := by kernel_rfl
  obtain ⟨x, a, b⟩ := d
  obtain ⟨y, a', b'⟩ := e
  simp only [doV]
  rw [run_eql_struct, show (10000 : Nat) = 9999 + 1 from rfl, run_equalIn_agg w 9999 35 _ _ hS hp]
  simp only [Program.fieldsOf, Tryd.underlying35]
  go_simp
  by_cases h1 : x = y <;> by_cases h2 : a = a' <;> by_cases h3 : b = b' <;> simp [h1, h2, h3]

set_option maxRecDepth 100000 in
/-- a thing that may not be told: ErrRange -/
theorem ref_bad (A : Option Addr) (c : Nat) (l : List Sc.D) (w : World) (hl : SliceAt doC 3 w w.heap.size A l) (hn : l.length ≤ 4096) (hbad : ∃ (j : Nat) (d : Sc.D), l[j]? = some d ∧ ¬ Sc.may d) :
    Calls Tryd.prog 6 #[.slice A l.length c] w fun e w' => e = .returned (.tuple #[.string ⟨#[]⟩, .int .i64 10]) ∧ Below w.heap.size w w' := by
  go_enter Tryd.func6, Tryd.ntmps6
  go_wp2_with fail
  go_loopw [4] (fun i wr => ∃ k : Nat, k ≤ l.length ∧ i = .int .i64 k ∧ (∀ (j : Nat) (d : Sc.D), j < k → l[j]? = some d → Sc.may d) ∧ Below w.heap.size w wr) (fun i _ => l.length - (intOf i).toNat)
  case atStart => exact ⟨0, Nat.zero_le _, rfl, fun j d h => by omega, Below.refl _ _⟩
  case round =>
    obtain ⟨k, hk, rfl, hmay, hb⟩ := hrel
    have hlt : k < l.length := by
      rcases Nat.lt_or_ge k l.length with h | h
      · exact h
      · obtain ⟨j, d, hj, hd⟩ := hbad
        have := (List.getElem?_eq_some_iff.1 hj).1
        exact absurd (hmay j d (by omega) hj) hd
    have hd : l[k]? = some l[k] := List.getElem?_eq_getElem hlt
    generalize l[k] = d at hd
    obtain ⟨b, off, rfl, hbB, h0, h1, h2⟩ := doC_at hl hd
    obtain ⟨hcc, _⟩ := bcell hb
    have hT := Told_calls d wr
    unfold doV Sc.told at hT
    have hbs := hb.size
    have Hd := Lib.hid hd
    clear hd hl hbad
    have hmd : Sc.may d ↔ (0 ≤ d.x ∧ d.x ≤ 3 ∧ 0 ≤ Sc.ta d.x d.a ∧ Sc.ta d.x d.a ≤ 4095 ∧ 0 ≤ Sc.tb d.x d.b ∧ Sc.tb d.x d.b ≤ 4095) := Iff.rfl
    have Hmd := Lib.hid hmd
    clear hmd
    simp only at hT
    generalize Sc.ta d.x d.a = p at hT Hmd
    generalize Sc.tb d.x d.b = q at hT Hmd
    go_wp2_with (go_at_call 16; refine hT.mono ?_; rintro e w1 ⟨rfl, hb1⟩)
    all_goals first
      | (go_ret2; exact ⟨rfl, (hb.trans (hb1.mono hbs)).alloc (by have := hb1.size; omega) _⟩)
      | (go_roundw
         case rel =>
           refine ⟨k + 1, by omega, by go_num, fun j d' hj hd' => ?_, (hb.trans (hb1.mono hbs)).alloc (by have := hb1.size; omega) _⟩
           by_cases hjk : j < k
           · exact hmay j d' hjk hd'
           · obtain rfl : j = k := by omega
             rw [Hd.out] at hd'
             cases hd'
             rw [Hmd.out]
             omega
         case measure => simp [intOf]; omega)

theorem cat (a b : List UInt8) : ∃ s : List UInt8, (⟨a.toArray⟩ : ByteArray) ++ ⟨b.toArray⟩ = ⟨s.toArray⟩ ∧ Hid (s = a ++ b) ∧ s.length ≤ a.length + b.length :=
  ⟨a ++ b, ba_lists a b, rfl, by simp⟩
theorem word_len (x : Int) : (Sc.word x).length ≤ 7 := by unfold Sc.word; split <;> (try split) <;> (try split) <;> simp
theorem dec_len (n : Int) (h0 : 0 ≤ n) (h : n < 1000000000) : (decDigits n.toNat).length ≤ 21 := by
  have := itoa_length_le n (by omega) (by omega)
  rwa [Sc.itoa_pos h0] at this
theorem dec_any (n : Int) (w : World) (h0 : 0 ≤ n) (h : n < 1000000000) :
    Calls Tryd.prog 19 #[.int .i64 n] w fun e w' => e = .returned (.string ⟨(itoa n).toArray⟩) ∧ Below w.heap.size w w' := by
  rw [Sc.itoa_pos h0]
  exact dec_calls n.toNat n w rfl h0 h

theorem refGo_go {n : Nat} {d e : Sc.D} {r : List Sc.D} (h : n + 1 < 4095) (he : r[0]? = some e) (ht : Sc.told e = Sc.told d) : Sc.refGo n (d :: r) = Sc.refGo (n + 1) r := by
  cases r with
  | nil => simp at he
  | cons x r =>
    simp at he
    subst he
    rw [Sc.refGo, if_pos ⟨h, by simp [Sc.same1, ht]⟩]
theorem refGo_no {n : Nat} {d : Sc.D} {r : List Sc.D} (h : ¬ (n + 1 < 4095 ∧ ∃ e, r[0]? = some e ∧ Sc.told e = Sc.told d)) : Sc.refGo n (d :: r) = Sc.text d ++ (Sc.times (n + 1) ++ 10 :: Sc.refGo 0 r) := by
  rw [Sc.refGo, if_neg]
  rintro ⟨h1, h2⟩
  cases r with
  | nil => simp [Sc.same1] at h2
  | cons x r => exact h ⟨h1, x, rfl, by simpa [Sc.same1] using h2⟩

set_option maxRecDepth 100000 in
set_option maxHeartbeats 4000000 in
theorem ref_ok (A : Option Addr) (c : Nat) (l : List Sc.D) (w : World) (hl : SliceAt doC 3 w w.heap.size A l) (hn : l.length ≤ 4096) (hok : ∀ d ∈ l, Sc.may d) :
    Calls Tryd.prog 6 #[.slice A l.length c] w fun e w' => e = .returned (.tuple #[strV (Sc.printL l), .int .i64 0]) ∧ Below w.heap.size w w' := by
  rw [← Sc.refGo_eq]
  go_enter Tryd.func6, Tryd.ntmps6
  go_wp2_with fail
  go_loopw [4] (fun i wr => ∃ k : Nat, k ≤ l.length ∧ i = .int .i64 k ∧ Below w.heap.size w wr) (fun i _ => l.length - (intOf i).toNat)
  case atStart => exact ⟨0, Nat.zero_le _, rfl, Below.refl _ _⟩
  case round =>
    obtain ⟨k, hk, rfl, hb⟩ := hrel
    have hbs := hb.size
    by_cases hlt : k < l.length
    · have hd : l[k]? = some l[k] := List.getElem?_eq_getElem hlt
      have hm := hok _ (List.getElem_mem hlt)
      generalize l[k] = d at hd hm
      obtain ⟨b, off, rfl, hbB, h0, h1, h2⟩ := doC_at hl hd
      obtain ⟨hcc, _⟩ := bcell hb
      have hT := Told_calls d wr
      obtain ⟨m1, m2, m3, m4, m5, m6⟩ : 0 ≤ d.x ∧ d.x ≤ 3 ∧ 0 ≤ Sc.ta d.x d.a ∧ Sc.ta d.x d.a ≤ 4095 ∧ 0 ≤ Sc.tb d.x d.b ∧ Sc.tb d.x d.b ≤ 4095 := hm
      unfold doV Sc.told at hT
      clear hd hl
      simp only at hT
      generalize Sc.ta d.x d.a = p at hT m3 m4
      generalize Sc.tb d.x d.b = q at hT m5 m6
      have n1 : ¬ d.x < 0 := by omega
      have n2 : ¬ 3 < d.x := by omega
      have n3 : ¬ p < 0 := by omega
      have n4 : ¬ 4095 < p := by omega
      have n5 : ¬ q < 0 := by omega
      have n6 : ¬ 4095 < q := by omega
      go_wp2_with (go_at_call 16; refine hT.mono ?_; rintro e w1 ⟨rfl, hb1⟩)
      go_roundw
      case rel => exact ⟨k + 1, by omega, by go_num, (hb.trans (hb1.mono hbs)).alloc (by have := hb1.size; omega) _⟩
      case measure => simp [intOf]; omega
    · have hlt' : ¬ (k : Int) < l.length := by omega
      clear hlt hk
      have hlen : ¬ (4096 : Int) < l.length := by omega
      go_wp2_with fail
      obtain ⟨w0, rfl⟩ : ∃ w0 : World, w0 = wr := ⟨_, rfl⟩
      go_loopw [6, 7, 8] (fun sv nv iv wr => ∃ (k n : Nat) (bs : List UInt8), k ≤ l.length ∧ iv = .int .i64 k ∧ nv = .int .i64 n ∧ n ≤ 4094 ∧ sv = .string ⟨bs.toArray⟩ ∧ bs.length ≤ k * 100 ∧ bs ++ Sc.refGo n (l.drop k) = Sc.refGo 0 l ∧ Below w.heap.size w wr) (fun _ _ iv _ => l.length - (intOf iv).toNat)
      case atStart => exact ⟨0, 0, [], Nat.zero_le _, rfl, rfl, by omega, rfl, by simp, by simp, hb⟩
      case round =>
        obtain ⟨k, n, bs, hk, rfl, rfl, hn4, rfl, hbl, hgo, hb⟩ := hrel
        by_cases hlt : k < l.length
        · have hdr : l.drop k = l[k] :: l.drop (k + 1) := List.drop_eq_getElem_cons hlt
          have hd0 : l[k]? = some l[k] := List.getElem?_eq_getElem hlt
          have hdm := hok _ (List.getElem_mem hlt)
          generalize l[k] = d at hdr hd0 hdm
          rw [hdr] at hgo
          clear hdr
          obtain ⟨b, off, rfl, hbB, q0, q1, q2⟩ := doC_at hl hd0
          have q0' := (hb.cell (p := ⟨b, off + k * 3, none⟩) hbB).trans q0
          have q1' := (hb.cell (p := ⟨b, off + k * 3 + 1, none⟩) hbB).trans q1
          have q2' := (hb.cell (p := ⟨b, off + k * 3 + 2, none⟩) hbB).trans q2
          have hN := fun W => name_calls d.x W
          have hM := fun W => many_calls d.x W
          have hr0 : (l.drop (k + 1))[0]? = l[k + 1]? := by rw [List.getElem?_drop]
          have Hgo := Lib.hid hgo
          have hki : (k : Int) < l.length := by omega
          have hbsz := hb.size
          clear hgo hd0 q0 q1 q2
          by_cases hcont : n + 1 < 4095 ∧ ∃ e, l[k + 1]? = some e ∧ Sc.told e = Sc.told d
          · obtain ⟨hn1, e, he, hte⟩ := hcont
            have Hst := Lib.hid (refGo_go (n := n) (d := d) hn1 (hr0.trans he) hte)
            have hlt1 : k + 1 < l.length := (List.getElem?_eq_some_iff.1 he).1
            have hi1 : (k : Int) + 1 < l.length := by omega
            have hi2 : (n : Int) + 1 < 4095 := by omega
            clear hr0
            all_goals
                have hem := hok e (List.mem_of_getElem? he)
                obtain ⟨b2, off2, e2, hb2, p0, p1, p2⟩ := doC_at hl he
                obtain ⟨rfl, rfl⟩ : b = b2 ∧ off = off2 := by
                  injection e2 with e2
                  injection e2 with x1 x2 x3
                  exact ⟨x1, x2⟩
                have l0 := fun dr os => cell_regrown ((hb.cell (p := ⟨b, off + (k + 1) * 3, none⟩) hbB).trans p0) dr os
                have l1 := fun dr os => cell_regrown ((hb.cell (p := ⟨b, off + (k + 1) * 3 + 1, none⟩) hbB).trans p1) dr os
                have l2 := fun dr os => cell_regrown ((hb.cell (p := ⟨b, off + (k + 1) * 3 + 2, none⟩) hbB).trans p2) dr os
                have k0 := fun dr os => cell_regrown q0' dr os
                have k1 := fun dr os => cell_regrown q1' dr os
                have k2 := fun dr os => cell_regrown q2' dr os
                have c1 : ∀ dr os, Calls Tryd.prog 16 #[.agg #[.int .i64 e.x, .int .i64 e.a, .int .i64 e.b]] (grow (redrawn wr dr) os) fun e' w'' => e' = .returned (doV (Sc.told e)) ∧ ∃ p : Regrown, w'' = grow (redrawn wr p.d) p.os :=
                  fun dr os => Calls.regrown_of (Told_calls e _)
                have c2 : ∀ dr os, Calls Tryd.prog 16 #[.agg #[.int .i64 d.x, .int .i64 d.a, .int .i64 d.b]] (grow (redrawn wr dr) os) fun e' w'' => e' = .returned (doV (Sc.told d)) ∧ ∃ p : Regrown, w'' = grow (redrawn wr p.d) p.os :=
                  fun dr os => Calls.regrown_of (Told_calls d _)
                have heq : ∀ W, (binOp .eql 35 (doV (Sc.told e)) (doV (Sc.told d))).run Tryd.prog W = .ok (.bool true) W := fun W => by rw [eql_rdo]; simp [hte]
                have hgd : ∀ (x y : Operand) (W : World), (eqGuard .eql 35 x y (doV (Sc.told e)) (doV (Sc.told d))).run Tryd.prog W = .ok () W := fun x y W => run_eqGuard_agg W _ _ x y _ _ (by kernel_rfl)
                clear he e2 p0 p1 p2 hte
                have hwr : IntKind.i64.wrap ((k : Int) + 1) = (k : Int) + 1 := IntWalk.i64_in _ (by omega)
                have hnn : (0 : Int) ≤ (k : Int) + 1 := by omega
                have htn : ((k : Int) + 1).toNat = k + 1 := by omega
                go_wp2_with fail
                refine wp_region_quiet_below (by kernel_rfl) (by kernel_rfl) ?_
                repeat (quiet_step (first | (with_reducible exact c1 _ _) | (with_reducible exact c2 _ _)))
                refine wpQuiet_nil ?_
                intro _ hw'
                obtain ⟨⟨dq, osq⟩, hw''⟩ := hw'
                subst hw''
                have hbq := below_regrown wr dq osq
                clear c1 c2 k0 k1 k2 l0 l1 l2 heq hgd hwr hnn htn
                generalize grow (redrawn wr dq) osq = wq at hbq ⊢
                go_wp2_with fail
                go_roundw
                case rel => exact ⟨k + 1, n + 1, bs, by omega, by go_num, by go_num, by omega, rfl, by omega, by rw [← Hst.out]; exact Hgo.out, hb.trans (hbq.mono hbsz)⟩
                case measure => simp [intOf]; omega
          · have Hst := Lib.hid (refGo_no (n := n) (d := d) (r := l.drop (k + 1)) (by rw [hr0]; exact hcont))
            have hcase : ¬ k + 1 < l.length ∨ (k + 1 < l.length ∧ ¬ n + 1 < 4095) ∨ (k + 1 < l.length ∧ n + 1 < 4095 ∧ ∃ e, l[k + 1]? = some e ∧ Sc.told e ≠ Sc.told d) := by
              by_cases a1 : k + 1 < l.length
              · by_cases a2 : n + 1 < 4095
                · exact .inr (.inr ⟨a1, a2, _, List.getElem?_eq_getElem a1, fun e => hcont ⟨a2, _, List.getElem?_eq_getElem a1, e⟩⟩)
                · exact .inr (.inl ⟨a1, a2⟩)
              · exact .inl a1
            clear hcont hr0
            rcases hcase with t1 | ⟨t1, t2⟩ | ⟨t1, t2, e, he, hte⟩
            · have t1' : decide ((k : Int) + 1 < l.length) = false := by simp; omega
              all_goals
                go_wp2_with fail
                refine wp_region_quiet_below (by kernel_rfl) (by kernel_rfl) ?_
                repeat (go_big_quiet_step (fail))
                refine wpQuiet_nil ?_
                intro _ hw'
                obtain ⟨⟨dq, osq⟩, hw''⟩ := hw'
                subst hw''
                have hbq := below_regrown wr dq osq
                skip
                generalize grow (redrawn wr dq) osq = wq at hbq ⊢
                have s0 := (hbq.cell (p := ⟨b, off + k * 3, none⟩) (by simp; omega)).trans q0'
                have s1 := (hbq.cell (p := ⟨b, off + k * 3 + 1, none⟩) (by simp; omega)).trans q1'
                have s2 := (hbq.cell (p := ⟨b, off + k * 3 + 2, none⟩) (by simp; omega)).trans q2'
                clear q0' q1' q2'
                have hwl := word_len d.x
                unfold strV at hN
                obtain ⟨S1, e1, E1, L1⟩ := cat bs (Sc.word d.x)
                have B1 : ¬ 9223372036854775807 < bs.length + (Sc.word d.x).length := by omega
                have hbw1 := hb.trans (hbq.mono hbsz)
                have hbs1 := hbw1.size
                have hx := Sc.nums_cases d.x
                have hda : 0 < Sc.nums d.x → 0 ≤ d.a ∧ d.a ≤ 4095 := fun h => by
                  have h3 : 0 ≤ Sc.ta d.x d.a ∧ Sc.ta d.x d.a ≤ 4095 := ⟨hdm.2.2.1, hdm.2.2.2.1⟩
                  unfold Sc.ta at h3
                  rw [if_neg (by omega)] at h3
                  exact h3
                have hdb : 1 < Sc.nums d.x → 0 ≤ d.b ∧ d.b ≤ 4095 := fun h => by
                  have h3 : 0 ≤ Sc.tb d.x d.b ∧ Sc.tb d.x d.b ≤ 4095 := ⟨hdm.2.2.2.2.1, hdm.2.2.2.2.2⟩
                  unfold Sc.tb at h3
                  rw [if_neg (by omega)] at h3
                  exact h3
                by_cases hn1 : 1 < n + 1
                · have hn1' : (1 : Int) < (n : Int) + 1 := by omega
                  rcases hx with ⟨hx1, hnx⟩ | ⟨hx1, hnx⟩ | ⟨_, _, hnx⟩
                  all_goals
                    have Hnx := Lib.hid hnx
                    rw [hnx] at hM
                    try clear hx1
                    clear hnx
                  · obtain ⟨a0, a1⟩ := hda (by have := Hnx.out; omega)
                    have hla := itoa_length_le d.a (by omega) (by omega)
                    obtain ⟨S2, e2, E2, L2⟩ := cat S1 [32]
                    have B2 : ¬ 9223372036854775807 < S1.length + 1 := by omega
                    simp only [List.length_cons, List.length_nil] at L2
                    obtain ⟨S3, e3, E3, L3⟩ := cat S2 (itoa d.a)
                    have B3 : ¬ 9223372036854775807 < S2.length + (itoa d.a).length := by omega
                    obtain ⟨b0, b1⟩ := hdb (by have := Hnx.out; omega)
                    have hlb := itoa_length_le d.b (by omega) (by omega)
                    obtain ⟨S4, e4, E4, L4⟩ := cat S3 [32]
                    have B4 : ¬ 9223372036854775807 < S3.length + 1 := by omega
                    simp only [List.length_cons, List.length_nil] at L4
                    obtain ⟨S5, e5, E5, L5⟩ := cat S4 (itoa d.b)
                    have B5 : ¬ 9223372036854775807 < S4.length + (itoa d.b).length := by omega
                    have hln := itoa_length_le ((n : Int) + 1) (by omega) (by omega)
                    obtain ⟨S6, e6, E6, L6⟩ := cat S5 [32, 120]
                    have B6 : ¬ 9223372036854775807 < S5.length + 2 := by omega
                    simp only [List.length_cons, List.length_nil] at L6
                    obtain ⟨S7, e7, E7, L7⟩ := cat S6 (itoa ((n : Int) + 1))
                    have B7 : ¬ 9223372036854775807 < S6.length + (itoa ((n : Int) + 1)).length := by omega
                    obtain ⟨S8, e8, E8, L8⟩ := cat S7 [10]
                    have B8 : ¬ 9223372036854775807 < S7.length + 1 := by omega
                    simp only [List.length_cons, List.length_nil] at L8
                    clear hda hdb
                    go_wp2_with (first | (go_at_call 17; refine (hN _).mono ?_; rintro e1 w1 ⟨rfl, rfl⟩) | (go_at_call 18; refine (hM _).mono ?_; rintro e1 w1 ⟨rfl, rfl⟩) | (go_at_call 19; refine (dec_any _ _ (by omega) (by omega)).mono ?_; rintro e1 w1 ⟨rfl, hbX⟩; replace s0 := (hbX.cell (p := ⟨b, off + k * 3, none⟩) (by simp; omega)).trans s0; replace s1 := (hbX.cell (p := ⟨b, off + k * 3 + 1, none⟩) (by simp; omega)).trans s1; replace s2 := (hbX.cell (p := ⟨b, off + k * 3 + 2, none⟩) (by simp; omega)).trans s2; replace hbw1 := hbw1.trans (hbX.mono hbw1.size); replace hbs1 := hbw1.size))
                    go_roundw
                    case rel => exact ⟨k + 1, 0, S8, by omega, by go_num, rfl, by omega, rfl, by omega, by rw [← Hgo.out, Hst.out]; simp [Sc.text, Hnx.out, E1.out, E2.out, E3.out, E4.out, E5.out, E6.out, E7.out, E8.out, times_more hn1], hbw1⟩
                    case measure => simp [intOf]; omega
                  · have hln := itoa_length_le ((n : Int) + 1) (by omega) (by omega)
                    obtain ⟨S2, e2, E2, L2⟩ := cat S1 [32, 120]
                    have B2 : ¬ 9223372036854775807 < S1.length + 2 := by omega
                    simp only [List.length_cons, List.length_nil] at L2
                    obtain ⟨S3, e3, E3, L3⟩ := cat S2 (itoa ((n : Int) + 1))
                    have B3 : ¬ 9223372036854775807 < S2.length + (itoa ((n : Int) + 1)).length := by omega
                    obtain ⟨S4, e4, E4, L4⟩ := cat S3 [10]
                    have B4 : ¬ 9223372036854775807 < S3.length + 1 := by omega
                    simp only [List.length_cons, List.length_nil] at L4
                    clear hda hdb
                    go_wp2_with (first | (go_at_call 17; refine (hN _).mono ?_; rintro e1 w1 ⟨rfl, rfl⟩) | (go_at_call 18; refine (hM _).mono ?_; rintro e1 w1 ⟨rfl, rfl⟩) | (go_at_call 19; refine (dec_any _ _ (by omega) (by omega)).mono ?_; rintro e1 w1 ⟨rfl, hbX⟩; replace s0 := (hbX.cell (p := ⟨b, off + k * 3, none⟩) (by simp; omega)).trans s0; replace s1 := (hbX.cell (p := ⟨b, off + k * 3 + 1, none⟩) (by simp; omega)).trans s1; replace s2 := (hbX.cell (p := ⟨b, off + k * 3 + 2, none⟩) (by simp; omega)).trans s2; replace hbw1 := hbw1.trans (hbX.mono hbw1.size); replace hbs1 := hbw1.size))
                    go_roundw
                    case rel => exact ⟨k + 1, 0, S4, by omega, by go_num, rfl, by omega, rfl, by omega, by rw [← Hgo.out, Hst.out]; simp [Sc.text, Hnx.out, E1.out, E2.out, E3.out, E4.out, times_more hn1], hbw1⟩
                    case measure => simp [intOf]; omega
                  · obtain ⟨a0, a1⟩ := hda (by have := Hnx.out; omega)
                    have hla := itoa_length_le d.a (by omega) (by omega)
                    obtain ⟨S2, e2, E2, L2⟩ := cat S1 [32]
                    have B2 : ¬ 9223372036854775807 < S1.length + 1 := by omega
                    simp only [List.length_cons, List.length_nil] at L2
                    obtain ⟨S3, e3, E3, L3⟩ := cat S2 (itoa d.a)
                    have B3 : ¬ 9223372036854775807 < S2.length + (itoa d.a).length := by omega
                    have hln := itoa_length_le ((n : Int) + 1) (by omega) (by omega)
                    obtain ⟨S4, e4, E4, L4⟩ := cat S3 [32, 120]
                    have B4 : ¬ 9223372036854775807 < S3.length + 2 := by omega
                    simp only [List.length_cons, List.length_nil] at L4
                    obtain ⟨S5, e5, E5, L5⟩ := cat S4 (itoa ((n : Int) + 1))
                    have B5 : ¬ 9223372036854775807 < S4.length + (itoa ((n : Int) + 1)).length := by omega
                    obtain ⟨S6, e6, E6, L6⟩ := cat S5 [10]
                    have B6 : ¬ 9223372036854775807 < S5.length + 1 := by omega
                    simp only [List.length_cons, List.length_nil] at L6
                    clear hda hdb
                    go_wp2_with (first | (go_at_call 17; refine (hN _).mono ?_; rintro e1 w1 ⟨rfl, rfl⟩) | (go_at_call 18; refine (hM _).mono ?_; rintro e1 w1 ⟨rfl, rfl⟩) | (go_at_call 19; refine (dec_any _ _ (by omega) (by omega)).mono ?_; rintro e1 w1 ⟨rfl, hbX⟩; replace s0 := (hbX.cell (p := ⟨b, off + k * 3, none⟩) (by simp; omega)).trans s0; replace s1 := (hbX.cell (p := ⟨b, off + k * 3 + 1, none⟩) (by simp; omega)).trans s1; replace s2 := (hbX.cell (p := ⟨b, off + k * 3 + 2, none⟩) (by simp; omega)).trans s2; replace hbw1 := hbw1.trans (hbX.mono hbw1.size); replace hbs1 := hbw1.size))
                    go_roundw
                    case rel => exact ⟨k + 1, 0, S6, by omega, by go_num, rfl, by omega, rfl, by omega, by rw [← Hgo.out, Hst.out]; simp [Sc.text, Hnx.out, E1.out, E2.out, E3.out, E4.out, E5.out, E6.out, times_more hn1], hbw1⟩
                    case measure => simp [intOf]; omega
                · have hn1' : ¬ (1 : Int) < (n : Int) + 1 := by omega
                  rcases hx with ⟨hx1, hnx⟩ | ⟨hx1, hnx⟩ | ⟨_, _, hnx⟩
                  all_goals
                    have Hnx := Lib.hid hnx
                    rw [hnx] at hM
                    try clear hx1
                    clear hnx
                  · obtain ⟨a0, a1⟩ := hda (by have := Hnx.out; omega)
                    have hla := itoa_length_le d.a (by omega) (by omega)
                    obtain ⟨S2, e2, E2, L2⟩ := cat S1 [32]
                    have B2 : ¬ 9223372036854775807 < S1.length + 1 := by omega
                    simp only [List.length_cons, List.length_nil] at L2
                    obtain ⟨S3, e3, E3, L3⟩ := cat S2 (itoa d.a)
                    have B3 : ¬ 9223372036854775807 < S2.length + (itoa d.a).length := by omega
                    obtain ⟨b0, b1⟩ := hdb (by have := Hnx.out; omega)
                    have hlb := itoa_length_le d.b (by omega) (by omega)
                    obtain ⟨S4, e4, E4, L4⟩ := cat S3 [32]
                    have B4 : ¬ 9223372036854775807 < S3.length + 1 := by omega
                    simp only [List.length_cons, List.length_nil] at L4
                    obtain ⟨S5, e5, E5, L5⟩ := cat S4 (itoa d.b)
                    have B5 : ¬ 9223372036854775807 < S4.length + (itoa d.b).length := by omega
                    obtain ⟨S6, e6, E6, L6⟩ := cat S5 [10]
                    have B6 : ¬ 9223372036854775807 < S5.length + 1 := by omega
                    simp only [List.length_cons, List.length_nil] at L6
                    clear hda hdb
                    go_wp2_with (first | (go_at_call 17; refine (hN _).mono ?_; rintro e1 w1 ⟨rfl, rfl⟩) | (go_at_call 18; refine (hM _).mono ?_; rintro e1 w1 ⟨rfl, rfl⟩) | (go_at_call 19; refine (dec_any _ _ (by omega) (by omega)).mono ?_; rintro e1 w1 ⟨rfl, hbX⟩; replace s0 := (hbX.cell (p := ⟨b, off + k * 3, none⟩) (by simp; omega)).trans s0; replace s1 := (hbX.cell (p := ⟨b, off + k * 3 + 1, none⟩) (by simp; omega)).trans s1; replace s2 := (hbX.cell (p := ⟨b, off + k * 3 + 2, none⟩) (by simp; omega)).trans s2; replace hbw1 := hbw1.trans (hbX.mono hbw1.size); replace hbs1 := hbw1.size))
                    go_roundw
                    case rel => exact ⟨k + 1, 0, S6, by omega, by go_num, rfl, by omega, rfl, by omega, by rw [← Hgo.out, Hst.out]; simp [Sc.text, Hnx.out, E1.out, E2.out, E3.out, E4.out, E5.out, E6.out, times_one hn1], hbw1⟩
                    case measure => simp [intOf]; omega
                  · obtain ⟨S2, e2, E2, L2⟩ := cat S1 [10]
                    have B2 : ¬ 9223372036854775807 < S1.length + 1 := by omega
                    simp only [List.length_cons, List.length_nil] at L2
                    clear hda hdb
                    go_wp2_with (first | (go_at_call 17; refine (hN _).mono ?_; rintro e1 w1 ⟨rfl, rfl⟩) | (go_at_call 18; refine (hM _).mono ?_; rintro e1 w1 ⟨rfl, rfl⟩) | (go_at_call 19; refine (dec_any _ _ (by omega) (by omega)).mono ?_; rintro e1 w1 ⟨rfl, hbX⟩; replace s0 := (hbX.cell (p := ⟨b, off + k * 3, none⟩) (by simp; omega)).trans s0; replace s1 := (hbX.cell (p := ⟨b, off + k * 3 + 1, none⟩) (by simp; omega)).trans s1; replace s2 := (hbX.cell (p := ⟨b, off + k * 3 + 2, none⟩) (by simp; omega)).trans s2; replace hbw1 := hbw1.trans (hbX.mono hbw1.size); replace hbs1 := hbw1.size))
                    go_roundw
                    case rel => exact ⟨k + 1, 0, S2, by omega, by go_num, rfl, by omega, rfl, by omega, by rw [← Hgo.out, Hst.out]; simp [Sc.text, Hnx.out, E1.out, E2.out, times_one hn1], hbw1⟩
                    case measure => simp [intOf]; omega
                  · obtain ⟨a0, a1⟩ := hda (by have := Hnx.out; omega)
                    have hla := itoa_length_le d.a (by omega) (by omega)
                    obtain ⟨S2, e2, E2, L2⟩ := cat S1 [32]
                    have B2 : ¬ 9223372036854775807 < S1.length + 1 := by omega
                    simp only [List.length_cons, List.length_nil] at L2
                    obtain ⟨S3, e3, E3, L3⟩ := cat S2 (itoa d.a)
                    have B3 : ¬ 9223372036854775807 < S2.length + (itoa d.a).length := by omega
                    obtain ⟨S4, e4, E4, L4⟩ := cat S3 [10]
                    have B4 : ¬ 9223372036854775807 < S3.length + 1 := by omega
                    simp only [List.length_cons, List.length_nil] at L4
                    clear hda hdb
                    go_wp2_with (first | (go_at_call 17; refine (hN _).mono ?_; rintro e1 w1 ⟨rfl, rfl⟩) | (go_at_call 18; refine (hM _).mono ?_; rintro e1 w1 ⟨rfl, rfl⟩) | (go_at_call 19; refine (dec_any _ _ (by omega) (by omega)).mono ?_; rintro e1 w1 ⟨rfl, hbX⟩; replace s0 := (hbX.cell (p := ⟨b, off + k * 3, none⟩) (by simp; omega)).trans s0; replace s1 := (hbX.cell (p := ⟨b, off + k * 3 + 1, none⟩) (by simp; omega)).trans s1; replace s2 := (hbX.cell (p := ⟨b, off + k * 3 + 2, none⟩) (by simp; omega)).trans s2; replace hbw1 := hbw1.trans (hbX.mono hbw1.size); replace hbs1 := hbw1.size))
                    go_roundw
                    case rel => exact ⟨k + 1, 0, S4, by omega, by go_num, rfl, by omega, rfl, by omega, by rw [← Hgo.out, Hst.out]; simp [Sc.text, Hnx.out, E1.out, E2.out, E3.out, E4.out, times_one hn1], hbw1⟩
                    case measure => simp [intOf]; omega
            · have t1' : (k : Int) + 1 < l.length := by omega
              have t2' : decide ((n : Int) + 1 < 4095) = false := by simp; omega
              all_goals
                go_wp2_with fail
                refine wp_region_quiet_below (by kernel_rfl) (by kernel_rfl) ?_
                repeat (go_big_quiet_step (fail))
                refine wpQuiet_nil ?_
                intro _ hw'
                obtain ⟨⟨dq, osq⟩, hw''⟩ := hw'
                subst hw''
                have hbq := below_regrown wr dq osq
                skip
                generalize grow (redrawn wr dq) osq = wq at hbq ⊢
                have s0 := (hbq.cell (p := ⟨b, off + k * 3, none⟩) (by simp; omega)).trans q0'
                have s1 := (hbq.cell (p := ⟨b, off + k * 3 + 1, none⟩) (by simp; omega)).trans q1'
                have s2 := (hbq.cell (p := ⟨b, off + k * 3 + 2, none⟩) (by simp; omega)).trans q2'
                clear q0' q1' q2'
                have hwl := word_len d.x
                unfold strV at hN
                obtain ⟨S1, e1, E1, L1⟩ := cat bs (Sc.word d.x)
                have B1 : ¬ 9223372036854775807 < bs.length + (Sc.word d.x).length := by omega
                have hbw1 := hb.trans (hbq.mono hbsz)
                have hbs1 := hbw1.size
                have hx := Sc.nums_cases d.x
                have hda : 0 < Sc.nums d.x → 0 ≤ d.a ∧ d.a ≤ 4095 := fun h => by
                  have h3 : 0 ≤ Sc.ta d.x d.a ∧ Sc.ta d.x d.a ≤ 4095 := ⟨hdm.2.2.1, hdm.2.2.2.1⟩
                  unfold Sc.ta at h3
                  rw [if_neg (by omega)] at h3
                  exact h3
                have hdb : 1 < Sc.nums d.x → 0 ≤ d.b ∧ d.b ≤ 4095 := fun h => by
                  have h3 : 0 ≤ Sc.tb d.x d.b ∧ Sc.tb d.x d.b ≤ 4095 := ⟨hdm.2.2.2.2.1, hdm.2.2.2.2.2⟩
                  unfold Sc.tb at h3
                  rw [if_neg (by omega)] at h3
                  exact h3
                by_cases hn1 : 1 < n + 1
                · have hn1' : (1 : Int) < (n : Int) + 1 := by omega
                  rcases hx with ⟨hx1, hnx⟩ | ⟨hx1, hnx⟩ | ⟨_, _, hnx⟩
                  all_goals
                    have Hnx := Lib.hid hnx
                    rw [hnx] at hM
                    try clear hx1
                    clear hnx
                  · obtain ⟨a0, a1⟩ := hda (by have := Hnx.out; omega)
                    have hla := itoa_length_le d.a (by omega) (by omega)
                    obtain ⟨S2, e2, E2, L2⟩ := cat S1 [32]
                    have B2 : ¬ 9223372036854775807 < S1.length + 1 := by omega
                    simp only [List.length_cons, List.length_nil] at L2
                    obtain ⟨S3, e3, E3, L3⟩ := cat S2 (itoa d.a)
                    have B3 : ¬ 9223372036854775807 < S2.length + (itoa d.a).length := by omega
                    obtain ⟨b0, b1⟩ := hdb (by have := Hnx.out; omega)
                    have hlb := itoa_length_le d.b (by omega) (by omega)
                    obtain ⟨S4, e4, E4, L4⟩ := cat S3 [32]
                    have B4 : ¬ 9223372036854775807 < S3.length + 1 := by omega
                    simp only [List.length_cons, List.length_nil] at L4
                    obtain ⟨S5, e5, E5, L5⟩ := cat S4 (itoa d.b)
                    have B5 : ¬ 9223372036854775807 < S4.length + (itoa d.b).length := by omega
                    have hln := itoa_length_le ((n : Int) + 1) (by omega) (by omega)
                    obtain ⟨S6, e6, E6, L6⟩ := cat S5 [32, 120]
                    have B6 : ¬ 9223372036854775807 < S5.length + 2 := by omega
                    simp only [List.length_cons, List.length_nil] at L6
                    obtain ⟨S7, e7, E7, L7⟩ := cat S6 (itoa ((n : Int) + 1))
                    have B7 : ¬ 9223372036854775807 < S6.length + (itoa ((n : Int) + 1)).length := by omega
                    obtain ⟨S8, e8, E8, L8⟩ := cat S7 [10]
                    have B8 : ¬ 9223372036854775807 < S7.length + 1 := by omega
                    simp only [List.length_cons, List.length_nil] at L8
                    clear hda hdb
                    go_wp2_with (first | (go_at_call 17; refine (hN _).mono ?_; rintro e1 w1 ⟨rfl, rfl⟩) | (go_at_call 18; refine (hM _).mono ?_; rintro e1 w1 ⟨rfl, rfl⟩) | (go_at_call 19; refine (dec_any _ _ (by omega) (by omega)).mono ?_; rintro e1 w1 ⟨rfl, hbX⟩; replace s0 := (hbX.cell (p := ⟨b, off + k * 3, none⟩) (by simp; omega)).trans s0; replace s1 := (hbX.cell (p := ⟨b, off + k * 3 + 1, none⟩) (by simp; omega)).trans s1; replace s2 := (hbX.cell (p := ⟨b, off + k * 3 + 2, none⟩) (by simp; omega)).trans s2; replace hbw1 := hbw1.trans (hbX.mono hbw1.size); replace hbs1 := hbw1.size))
                    go_roundw
                    case rel => exact ⟨k + 1, 0, S8, by omega, by go_num, rfl, by omega, rfl, by omega, by rw [← Hgo.out, Hst.out]; simp [Sc.text, Hnx.out, E1.out, E2.out, E3.out, E4.out, E5.out, E6.out, E7.out, E8.out, times_more hn1], hbw1⟩
                    case measure => simp [intOf]; omega
                  · have hln := itoa_length_le ((n : Int) + 1) (by omega) (by omega)
                    obtain ⟨S2, e2, E2, L2⟩ := cat S1 [32, 120]
                    have B2 : ¬ 9223372036854775807 < S1.length + 2 := by omega
                    simp only [List.length_cons, List.length_nil] at L2
                    obtain ⟨S3, e3, E3, L3⟩ := cat S2 (itoa ((n : Int) + 1))
                    have B3 : ¬ 9223372036854775807 < S2.length + (itoa ((n : Int) + 1)).length := by omega
                    obtain ⟨S4, e4, E4, L4⟩ := cat S3 [10]
                    have B4 : ¬ 9223372036854775807 < S3.length + 1 := by omega
                    simp only [List.length_cons, List.length_nil] at L4
                    clear hda hdb
                    go_wp2_with (first | (go_at_call 17; refine (hN _).mono ?_; rintro e1 w1 ⟨rfl, rfl⟩) | (go_at_call 18; refine (hM _).mono ?_; rintro e1 w1 ⟨rfl, rfl⟩) | (go_at_call 19; refine (dec_any _ _ (by omega) (by omega)).mono ?_; rintro e1 w1 ⟨rfl, hbX⟩; replace s0 := (hbX.cell (p := ⟨b, off + k * 3, none⟩) (by simp; omega)).trans s0; replace s1 := (hbX.cell (p := ⟨b, off + k * 3 + 1, none⟩) (by simp; omega)).trans s1; replace s2 := (hbX.cell (p := ⟨b, off + k * 3 + 2, none⟩) (by simp; omega)).trans s2; replace hbw1 := hbw1.trans (hbX.mono hbw1.size); replace hbs1 := hbw1.size))
                    go_roundw
                    case rel => exact ⟨k + 1, 0, S4, by omega, by go_num, rfl, by omega, rfl, by omega, by rw [← Hgo.out, Hst.out]; simp [Sc.text, Hnx.out, E1.out, E2.out, E3.out, E4.out, times_more hn1], hbw1⟩
                    case measure => simp [intOf]; omega
                  · obtain ⟨a0, a1⟩ := hda (by have := Hnx.out; omega)
                    have hla := itoa_length_le d.a (by omega) (by omega)
                    obtain ⟨S2, e2, E2, L2⟩ := cat S1 [32]
                    have B2 : ¬ 9223372036854775807 < S1.length + 1 := by omega
                    simp only [List.length_cons, List.length_nil] at L2
                    obtain ⟨S3, e3, E3, L3⟩ := cat S2 (itoa d.a)
                    have B3 : ¬ 9223372036854775807 < S2.length + (itoa d.a).length := by omega
                    have hln := itoa_length_le ((n : Int) + 1) (by omega) (by omega)
                    obtain ⟨S4, e4, E4, L4⟩ := cat S3 [32, 120]
                    have B4 : ¬ 9223372036854775807 < S3.length + 2 := by omega
                    simp only [List.length_cons, List.length_nil] at L4
                    obtain ⟨S5, e5, E5, L5⟩ := cat S4 (itoa ((n : Int) + 1))
                    have B5 : ¬ 9223372036854775807 < S4.length + (itoa ((n : Int) + 1)).length := by omega
                    obtain ⟨S6, e6, E6, L6⟩ := cat S5 [10]
                    have B6 : ¬ 9223372036854775807 < S5.length + 1 := by omega
                    simp only [List.length_cons, List.length_nil] at L6
                    clear hda hdb
                    go_wp2_with (first | (go_at_call 17; refine (hN _).mono ?_; rintro e1 w1 ⟨rfl, rfl⟩) | (go_at_call 18; refine (hM _).mono ?_; rintro e1 w1 ⟨rfl, rfl⟩) | (go_at_call 19; refine (dec_any _ _ (by omega) (by omega)).mono ?_; rintro e1 w1 ⟨rfl, hbX⟩; replace s0 := (hbX.cell (p := ⟨b, off + k * 3, none⟩) (by simp; omega)).trans s0; replace s1 := (hbX.cell (p := ⟨b, off + k * 3 + 1, none⟩) (by simp; omega)).trans s1; replace s2 := (hbX.cell (p := ⟨b, off + k * 3 + 2, none⟩) (by simp; omega)).trans s2; replace hbw1 := hbw1.trans (hbX.mono hbw1.size); replace hbs1 := hbw1.size))
                    go_roundw
                    case rel => exact ⟨k + 1, 0, S6, by omega, by go_num, rfl, by omega, rfl, by omega, by rw [← Hgo.out, Hst.out]; simp [Sc.text, Hnx.out, E1.out, E2.out, E3.out, E4.out, E5.out, E6.out, times_more hn1], hbw1⟩
                    case measure => simp [intOf]; omega
                · exfalso; omega
            · have t1' : (k : Int) + 1 < l.length := by omega
              have t2' : (n : Int) + 1 < 4095 := by omega
              all_goals
                have hem := hok e (List.mem_of_getElem? he)
                obtain ⟨b2, off2, e2, hb2, p0, p1, p2⟩ := doC_at hl he
                obtain ⟨rfl, rfl⟩ : b = b2 ∧ off = off2 := by
                  injection e2 with e2
                  injection e2 with x1 x2 x3
                  exact ⟨x1, x2⟩
                have l0 := fun dr os => cell_regrown ((hb.cell (p := ⟨b, off + (k + 1) * 3, none⟩) hbB).trans p0) dr os
                have l1 := fun dr os => cell_regrown ((hb.cell (p := ⟨b, off + (k + 1) * 3 + 1, none⟩) hbB).trans p1) dr os
                have l2 := fun dr os => cell_regrown ((hb.cell (p := ⟨b, off + (k + 1) * 3 + 2, none⟩) hbB).trans p2) dr os
                have k0 := fun dr os => cell_regrown q0' dr os
                have k1 := fun dr os => cell_regrown q1' dr os
                have k2 := fun dr os => cell_regrown q2' dr os
                have c1 : ∀ dr os, Calls Tryd.prog 16 #[.agg #[.int .i64 e.x, .int .i64 e.a, .int .i64 e.b]] (grow (redrawn wr dr) os) fun e' w'' => e' = .returned (doV (Sc.told e)) ∧ ∃ p : Regrown, w'' = grow (redrawn wr p.d) p.os :=
                  fun dr os => Calls.regrown_of (Told_calls e _)
                have c2 : ∀ dr os, Calls Tryd.prog 16 #[.agg #[.int .i64 d.x, .int .i64 d.a, .int .i64 d.b]] (grow (redrawn wr dr) os) fun e' w'' => e' = .returned (doV (Sc.told d)) ∧ ∃ p : Regrown, w'' = grow (redrawn wr p.d) p.os :=
                  fun dr os => Calls.regrown_of (Told_calls d _)
                have heq : ∀ W, (binOp .eql 35 (doV (Sc.told e)) (doV (Sc.told d))).run Tryd.prog W = .ok (.bool false) W := fun W => by rw [eql_rdo]; simp [hte]
                have hgd : ∀ (x y : Operand) (W : World), (eqGuard .eql 35 x y (doV (Sc.told e)) (doV (Sc.told d))).run Tryd.prog W = .ok () W := fun x y W => run_eqGuard_agg W _ _ x y _ _ (by kernel_rfl)
                clear he e2 p0 p1 p2 hte
                have hwr : IntKind.i64.wrap ((k : Int) + 1) = (k : Int) + 1 := IntWalk.i64_in _ (by omega)
                have hnn : (0 : Int) ≤ (k : Int) + 1 := by omega
                have htn : ((k : Int) + 1).toNat = k + 1 := by omega
                go_wp2_with fail
                refine wp_region_quiet_below (by kernel_rfl) (by kernel_rfl) ?_
                repeat (quiet_step (first | (with_reducible exact c1 _ _) | (with_reducible exact c2 _ _)))
                refine wpQuiet_nil ?_
                intro _ hw'
                obtain ⟨⟨dq, osq⟩, hw''⟩ := hw'
                subst hw''
                have hbq := below_regrown wr dq osq
                clear c1 c2 k0 k1 k2 l0 l1 l2 heq hgd hwr hnn htn
                generalize grow (redrawn wr dq) osq = wq at hbq ⊢
                have s0 := (hbq.cell (p := ⟨b, off + k * 3, none⟩) (by simp; omega)).trans q0'
                have s1 := (hbq.cell (p := ⟨b, off + k * 3 + 1, none⟩) (by simp; omega)).trans q1'
                have s2 := (hbq.cell (p := ⟨b, off + k * 3 + 2, none⟩) (by simp; omega)).trans q2'
                clear q0' q1' q2'
                have hwl := word_len d.x
                unfold strV at hN
                obtain ⟨S1, e1, E1, L1⟩ := cat bs (Sc.word d.x)
                have B1 : ¬ 9223372036854775807 < bs.length + (Sc.word d.x).length := by omega
                have hbw1 := hb.trans (hbq.mono hbsz)
                have hbs1 := hbw1.size
                have hx := Sc.nums_cases d.x
                have hda : 0 < Sc.nums d.x → 0 ≤ d.a ∧ d.a ≤ 4095 := fun h => by
                  have h3 : 0 ≤ Sc.ta d.x d.a ∧ Sc.ta d.x d.a ≤ 4095 := ⟨hdm.2.2.1, hdm.2.2.2.1⟩
                  unfold Sc.ta at h3
                  rw [if_neg (by omega)] at h3
                  exact h3
                have hdb : 1 < Sc.nums d.x → 0 ≤ d.b ∧ d.b ≤ 4095 := fun h => by
                  have h3 : 0 ≤ Sc.tb d.x d.b ∧ Sc.tb d.x d.b ≤ 4095 := ⟨hdm.2.2.2.2.1, hdm.2.2.2.2.2⟩
                  unfold Sc.tb at h3
                  rw [if_neg (by omega)] at h3
                  exact h3
                by_cases hn1 : 1 < n + 1
                · have hn1' : (1 : Int) < (n : Int) + 1 := by omega
                  rcases hx with ⟨hx1, hnx⟩ | ⟨hx1, hnx⟩ | ⟨_, _, hnx⟩
                  all_goals
                    have Hnx := Lib.hid hnx
                    rw [hnx] at hM
                    try clear hx1
                    clear hnx
                  · obtain ⟨a0, a1⟩ := hda (by have := Hnx.out; omega)
                    have hla := itoa_length_le d.a (by omega) (by omega)
                    obtain ⟨S2, e2, E2, L2⟩ := cat S1 [32]
                    have B2 : ¬ 9223372036854775807 < S1.length + 1 := by omega
                    simp only [List.length_cons, List.length_nil] at L2
                    obtain ⟨S3, e3, E3, L3⟩ := cat S2 (itoa d.a)
                    have B3 : ¬ 9223372036854775807 < S2.length + (itoa d.a).length := by omega
                    obtain ⟨b0, b1⟩ := hdb (by have := Hnx.out; omega)
                    have hlb := itoa_length_le d.b (by omega) (by omega)
                    obtain ⟨S4, e4, E4, L4⟩ := cat S3 [32]
                    have B4 : ¬ 9223372036854775807 < S3.length + 1 := by omega
                    simp only [List.length_cons, List.length_nil] at L4
                    obtain ⟨S5, e5, E5, L5⟩ := cat S4 (itoa d.b)
                    have B5 : ¬ 9223372036854775807 < S4.length + (itoa d.b).length := by omega
                    have hln := itoa_length_le ((n : Int) + 1) (by omega) (by omega)
                    obtain ⟨S6, e6, E6, L6⟩ := cat S5 [32, 120]
                    have B6 : ¬ 9223372036854775807 < S5.length + 2 := by omega
                    simp only [List.length_cons, List.length_nil] at L6
                    obtain ⟨S7, e7, E7, L7⟩ := cat S6 (itoa ((n : Int) + 1))
                    have B7 : ¬ 9223372036854775807 < S6.length + (itoa ((n : Int) + 1)).length := by omega
                    obtain ⟨S8, e8, E8, L8⟩ := cat S7 [10]
                    have B8 : ¬ 9223372036854775807 < S7.length + 1 := by omega
                    simp only [List.length_cons, List.length_nil] at L8
                    clear hda hdb
                    go_wp2_with (first | (go_at_call 17; refine (hN _).mono ?_; rintro e1 w1 ⟨rfl, rfl⟩) | (go_at_call 18; refine (hM _).mono ?_; rintro e1 w1 ⟨rfl, rfl⟩) | (go_at_call 19; refine (dec_any _ _ (by omega) (by omega)).mono ?_; rintro e1 w1 ⟨rfl, hbX⟩; replace s0 := (hbX.cell (p := ⟨b, off + k * 3, none⟩) (by simp; omega)).trans s0; replace s1 := (hbX.cell (p := ⟨b, off + k * 3 + 1, none⟩) (by simp; omega)).trans s1; replace s2 := (hbX.cell (p := ⟨b, off + k * 3 + 2, none⟩) (by simp; omega)).trans s2; replace hbw1 := hbw1.trans (hbX.mono hbw1.size); replace hbs1 := hbw1.size))
                    go_roundw
                    case rel => exact ⟨k + 1, 0, S8, by omega, by go_num, rfl, by omega, rfl, by omega, by rw [← Hgo.out, Hst.out]; simp [Sc.text, Hnx.out, E1.out, E2.out, E3.out, E4.out, E5.out, E6.out, E7.out, E8.out, times_more hn1], hbw1⟩
                    case measure => simp [intOf]; omega
                  · have hln := itoa_length_le ((n : Int) + 1) (by omega) (by omega)
                    obtain ⟨S2, e2, E2, L2⟩ := cat S1 [32, 120]
                    have B2 : ¬ 9223372036854775807 < S1.length + 2 := by omega
                    simp only [List.length_cons, List.length_nil] at L2
                    obtain ⟨S3, e3, E3, L3⟩ := cat S2 (itoa ((n : Int) + 1))
                    have B3 : ¬ 9223372036854775807 < S2.length + (itoa ((n : Int) + 1)).length := by omega
                    obtain ⟨S4, e4, E4, L4⟩ := cat S3 [10]
                    have B4 : ¬ 9223372036854775807 < S3.length + 1 := by omega
                    simp only [List.length_cons, List.length_nil] at L4
                    clear hda hdb
                    go_wp2_with (first | (go_at_call 17; refine (hN _).mono ?_; rintro e1 w1 ⟨rfl, rfl⟩) | (go_at_call 18; refine (hM _).mono ?_; rintro e1 w1 ⟨rfl, rfl⟩) | (go_at_call 19; refine (dec_any _ _ (by omega) (by omega)).mono ?_; rintro e1 w1 ⟨rfl, hbX⟩; replace s0 := (hbX.cell (p := ⟨b, off + k * 3, none⟩) (by simp; omega)).trans s0; replace s1 := (hbX.cell (p := ⟨b, off + k * 3 + 1, none⟩) (by simp; omega)).trans s1; replace s2 := (hbX.cell (p := ⟨b, off + k * 3 + 2, none⟩) (by simp; omega)).trans s2; replace hbw1 := hbw1.trans (hbX.mono hbw1.size); replace hbs1 := hbw1.size))
                    go_roundw
                    case rel => exact ⟨k + 1, 0, S4, by omega, by go_num, rfl, by omega, rfl, by omega, by rw [← Hgo.out, Hst.out]; simp [Sc.text, Hnx.out, E1.out, E2.out, E3.out, E4.out, times_more hn1], hbw1⟩
                    case measure => simp [intOf]; omega
                  · obtain ⟨a0, a1⟩ := hda (by have := Hnx.out; omega)
                    have hla := itoa_length_le d.a (by omega) (by omega)
                    obtain ⟨S2, e2, E2, L2⟩ := cat S1 [32]
                    have B2 : ¬ 9223372036854775807 < S1.length + 1 := by omega
                    simp only [List.length_cons, List.length_nil] at L2
                    obtain ⟨S3, e3, E3, L3⟩ := cat S2 (itoa d.a)
                    have B3 : ¬ 9223372036854775807 < S2.length + (itoa d.a).length := by omega
                    have hln := itoa_length_le ((n : Int) + 1) (by omega) (by omega)
                    obtain ⟨S4, e4, E4, L4⟩ := cat S3 [32, 120]
                    have B4 : ¬ 9223372036854775807 < S3.length + 2 := by omega
                    simp only [List.length_cons, List.length_nil] at L4
                    obtain ⟨S5, e5, E5, L5⟩ := cat S4 (itoa ((n : Int) + 1))
                    have B5 : ¬ 9223372036854775807 < S4.length + (itoa ((n : Int) + 1)).length := by omega
                    obtain ⟨S6, e6, E6, L6⟩ := cat S5 [10]
                    have B6 : ¬ 9223372036854775807 < S5.length + 1 := by omega
                    simp only [List.length_cons, List.length_nil] at L6
                    clear hda hdb
                    go_wp2_with (first | (go_at_call 17; refine (hN _).mono ?_; rintro e1 w1 ⟨rfl, rfl⟩) | (go_at_call 18; refine (hM _).mono ?_; rintro e1 w1 ⟨rfl, rfl⟩) | (go_at_call 19; refine (dec_any _ _ (by omega) (by omega)).mono ?_; rintro e1 w1 ⟨rfl, hbX⟩; replace s0 := (hbX.cell (p := ⟨b, off + k * 3, none⟩) (by simp; omega)).trans s0; replace s1 := (hbX.cell (p := ⟨b, off + k * 3 + 1, none⟩) (by simp; omega)).trans s1; replace s2 := (hbX.cell (p := ⟨b, off + k * 3 + 2, none⟩) (by simp; omega)).trans s2; replace hbw1 := hbw1.trans (hbX.mono hbw1.size); replace hbs1 := hbw1.size))
                    go_roundw
                    case rel => exact ⟨k + 1, 0, S6, by omega, by go_num, rfl, by omega, rfl, by omega, by rw [← Hgo.out, Hst.out]; simp [Sc.text, Hnx.out, E1.out, E2.out, E3.out, E4.out, E5.out, E6.out, times_more hn1], hbw1⟩
                    case measure => simp [intOf]; omega
                · have hn1' : ¬ (1 : Int) < (n : Int) + 1 := by omega
                  rcases hx with ⟨hx1, hnx⟩ | ⟨hx1, hnx⟩ | ⟨_, _, hnx⟩
                  all_goals
                    have Hnx := Lib.hid hnx
                    rw [hnx] at hM
                    try clear hx1
                    clear hnx
                  · obtain ⟨a0, a1⟩ := hda (by have := Hnx.out; omega)
                    have hla := itoa_length_le d.a (by omega) (by omega)
                    obtain ⟨S2, e2, E2, L2⟩ := cat S1 [32]
                    have B2 : ¬ 9223372036854775807 < S1.length + 1 := by omega
                    simp only [List.length_cons, List.length_nil] at L2
                    obtain ⟨S3, e3, E3, L3⟩ := cat S2 (itoa d.a)
                    have B3 : ¬ 9223372036854775807 < S2.length + (itoa d.a).length := by omega
                    obtain ⟨b0, b1⟩ := hdb (by have := Hnx.out; omega)
                    have hlb := itoa_length_le d.b (by omega) (by omega)
                    obtain ⟨S4, e4, E4, L4⟩ := cat S3 [32]
                    have B4 : ¬ 9223372036854775807 < S3.length + 1 := by omega
                    simp only [List.length_cons, List.length_nil] at L4
                    obtain ⟨S5, e5, E5, L5⟩ := cat S4 (itoa d.b)
                    have B5 : ¬ 9223372036854775807 < S4.length + (itoa d.b).length := by omega
                    obtain ⟨S6, e6, E6, L6⟩ := cat S5 [10]
                    have B6 : ¬ 9223372036854775807 < S5.length + 1 := by omega
                    simp only [List.length_cons, List.length_nil] at L6
                    clear hda hdb
                    go_wp2_with (first | (go_at_call 17; refine (hN _).mono ?_; rintro e1 w1 ⟨rfl, rfl⟩) | (go_at_call 18; refine (hM _).mono ?_; rintro e1 w1 ⟨rfl, rfl⟩) | (go_at_call 19; refine (dec_any _ _ (by omega) (by omega)).mono ?_; rintro e1 w1 ⟨rfl, hbX⟩; replace s0 := (hbX.cell (p := ⟨b, off + k * 3, none⟩) (by simp; omega)).trans s0; replace s1 := (hbX.cell (p := ⟨b, off + k * 3 + 1, none⟩) (by simp; omega)).trans s1; replace s2 := (hbX.cell (p := ⟨b, off + k * 3 + 2, none⟩) (by simp; omega)).trans s2; replace hbw1 := hbw1.trans (hbX.mono hbw1.size); replace hbs1 := hbw1.size))
                    go_roundw
                    case rel => exact ⟨k + 1, 0, S6, by omega, by go_num, rfl, by omega, rfl, by omega, by rw [← Hgo.out, Hst.out]; simp [Sc.text, Hnx.out, E1.out, E2.out, E3.out, E4.out, E5.out, E6.out, times_one hn1], hbw1⟩
                    case measure => simp [intOf]; omega
                  · obtain ⟨S2, e2, E2, L2⟩ := cat S1 [10]
                    have B2 : ¬ 9223372036854775807 < S1.length + 1 := by omega
                    simp only [List.length_cons, List.length_nil] at L2
                    clear hda hdb
                    go_wp2_with (first | (go_at_call 17; refine (hN _).mono ?_; rintro e1 w1 ⟨rfl, rfl⟩) | (go_at_call 18; refine (hM _).mono ?_; rintro e1 w1 ⟨rfl, rfl⟩) | (go_at_call 19; refine (dec_any _ _ (by omega) (by omega)).mono ?_; rintro e1 w1 ⟨rfl, hbX⟩; replace s0 := (hbX.cell (p := ⟨b, off + k * 3, none⟩) (by simp; omega)).trans s0; replace s1 := (hbX.cell (p := ⟨b, off + k * 3 + 1, none⟩) (by simp; omega)).trans s1; replace s2 := (hbX.cell (p := ⟨b, off + k * 3 + 2, none⟩) (by simp; omega)).trans s2; replace hbw1 := hbw1.trans (hbX.mono hbw1.size); replace hbs1 := hbw1.size))
                    go_roundw
                    case rel => exact ⟨k + 1, 0, S2, by omega, by go_num, rfl, by omega, rfl, by omega, by rw [← Hgo.out, Hst.out]; simp [Sc.text, Hnx.out, E1.out, E2.out, times_one hn1], hbw1⟩
                    case measure => simp [intOf]; omega
                  · obtain ⟨a0, a1⟩ := hda (by have := Hnx.out; omega)
                    have hla := itoa_length_le d.a (by omega) (by omega)
                    obtain ⟨S2, e2, E2, L2⟩ := cat S1 [32]
                    have B2 : ¬ 9223372036854775807 < S1.length + 1 := by omega
                    simp only [List.length_cons, List.length_nil] at L2
                    obtain ⟨S3, e3, E3, L3⟩ := cat S2 (itoa d.a)
                    have B3 : ¬ 9223372036854775807 < S2.length + (itoa d.a).length := by omega
                    obtain ⟨S4, e4, E4, L4⟩ := cat S3 [10]
                    have B4 : ¬ 9223372036854775807 < S3.length + 1 := by omega
                    simp only [List.length_cons, List.length_nil] at L4
                    clear hda hdb
                    go_wp2_with (first | (go_at_call 17; refine (hN _).mono ?_; rintro e1 w1 ⟨rfl, rfl⟩) | (go_at_call 18; refine (hM _).mono ?_; rintro e1 w1 ⟨rfl, rfl⟩) | (go_at_call 19; refine (dec_any _ _ (by omega) (by omega)).mono ?_; rintro e1 w1 ⟨rfl, hbX⟩; replace s0 := (hbX.cell (p := ⟨b, off + k * 3, none⟩) (by simp; omega)).trans s0; replace s1 := (hbX.cell (p := ⟨b, off + k * 3 + 1, none⟩) (by simp; omega)).trans s1; replace s2 := (hbX.cell (p := ⟨b, off + k * 3 + 2, none⟩) (by simp; omega)).trans s2; replace hbw1 := hbw1.trans (hbX.mono hbw1.size); replace hbs1 := hbw1.size))
                    go_roundw
                    case rel => exact ⟨k + 1, 0, S4, by omega, by go_num, rfl, by omega, rfl, by omega, by rw [← Hgo.out, Hst.out]; simp [Sc.text, Hnx.out, E1.out, E2.out, E3.out, E4.out, times_one hn1], hbw1⟩
                    case measure => simp [intOf]; omega
        · have hnil : l.drop k = [] := List.drop_eq_nil_of_le (by omega)
          rw [hnil] at hgo
          simp only [Sc.refGo, List.append_nil] at hgo
          have Hgo := Lib.hid hgo
          clear hnil hgo
          go_wp2_with fail
          go_ret2
          rw [← Hgo.out]
          exact ⟨rfl, hb⟩
end Go.Proofs.YtmchngdgngcllaaDoor
