/- The contracts of the law's own same, and of awake: the chapter's examples hold. -/
import Derived.Test.YtbhmocfiifmmcaaGreatDoorScParse
namespace Go.Proofs.YtbhmocfiifmmcaaGreatDoor
open Go.RowKit Go.Lib Go.Sort

theorem take_succ_eq {l m : List Sc.D} {k : Nat} {d e : Sc.D} (hd : l[k]? = some d) (he : m[k]? = some e) (h : l.take k = m.take k) (hde : d = e) : l.take (k + 1) = m.take (k + 1) := by
  rw [List.take_add_one, List.take_add_one, h, hd, he, hde]
theorem ne_of_at {l m : List Sc.D} {k : Nat} {d e : Sc.D} (hd : l[k]? = some d) (he : m[k]? = some e) (hde : ¬ d = e) : decide (l = m) = false := by
  rw [decide_eq_false_iff_not]
  intro h
  rw [h, he] at hd
  injection hd with hd
  exact hde hd.symm

set_option maxRecDepth 100000 in
set_option maxHeartbeats 4000000 in
theorem same_calls (A B : Option Addr) (c c' : Nat) (l m : List Sc.D) (w : World) (hl : SliceAt doC 3 w w.heap.size A l) (hm : SliceAt doC 3 w w.heap.size B m) (hn : l.length ≤ 4096) (hn2 : m.length ≤ 4096) :
    Calls Tryz.prog 8 #[.slice A l.length c, .slice B m.length c'] w fun e w' => e = .returned (.bool (decide (l = m))) ∧ Below w.heap.size w w' := by
  by_cases hlen : l.length = m.length
  · have hle : ((l.length : Int) != m.length) = false := by simp [hlen]
    have Hlen := Lib.hid hlen
    clear hlen
    go_enter Tryz.func8, Tryz.ntmps8
    go_wp2_with fail
    go_loopw [5] (fun iv wr => ∃ k : Nat, k ≤ l.length ∧ iv = .int .i64 k ∧ l.take k = m.take k ∧ Below w.heap.size w wr) (fun iv _ => l.length - (intOf iv).toNat)
    case atStart => exact ⟨0, Nat.zero_le _, rfl, by simp, Below.refl _ _⟩
    case round =>
      obtain ⟨k, hk, rfl, htk, hb⟩ := hrel
      have hbs := hb.size
      have Htk := Lib.hid htk
      clear htk
      by_cases hlt : k < l.length
      · have hd : l[k]? = some l[k] := List.getElem?_eq_getElem hlt
        have hlt2 : k < m.length := by have := Hlen.out; omega
        have he : m[k]? = some m[k] := List.getElem?_eq_getElem hlt2
        generalize l[k] = d at hd
        generalize m[k] = e at he
        obtain ⟨b, off, rfl, hbB, p0, p1, p2⟩ := doC_at hl hd
        obtain ⟨b', off', rfl, hbB', q0, q1, q2⟩ := doC_at hm he
        have a0 := fun dr os => cell_regrown ((hb.cell (p := ⟨b, off + k * 3, none⟩) hbB).trans p0) dr os
        have a1 := fun dr os => cell_regrown ((hb.cell (p := ⟨b, off + k * 3 + 1, none⟩) hbB).trans p1) dr os
        have a2 := fun dr os => cell_regrown ((hb.cell (p := ⟨b, off + k * 3 + 2, none⟩) hbB).trans p2) dr os
        have b0 := fun dr os => cell_regrown ((hb.cell (p := ⟨b', off' + k * 3, none⟩) hbB').trans q0) dr os
        have b1 := fun dr os => cell_regrown ((hb.cell (p := ⟨b', off' + k * 3 + 1, none⟩) hbB').trans q1) dr os
        have b2 := fun dr os => cell_regrown ((hb.cell (p := ⟨b', off' + k * 3 + 2, none⟩) hbB').trans q2) dr os
        have Hd := Lib.hid hd
        have He := Lib.hid he
        clear p0 p1 p2 q0 q1 q2 hd he
        have hc : (d.x != e.x) = true ∧ ¬ d = e ∨ (d.x != e.x) = false ∧ (d.a != e.a) = true ∧ ¬ d = e ∨ (d.x != e.x) = false ∧ (d.a != e.a) = false ∧ (d.b != e.b) = true ∧ ¬ d = e ∨ (d.x != e.x) = false ∧ (d.a != e.a) = false ∧ (d.b != e.b) = false ∧ d = e := by
          by_cases h1 : d.x = e.x
          · by_cases h2 : d.a = e.a
            · by_cases h3 : d.b = e.b
              · refine .inr (.inr (.inr ⟨by simp [h1], by simp [h2], by simp [h3], ?_⟩))
                cases d; cases e; simp_all
              · exact .inr (.inr (.inl ⟨by simp [h1], by simp [h2], by simp [h3], fun h => h3 (by rw [h])⟩))
            · exact .inr (.inl ⟨by simp [h1], by simp [h2], fun h => h2 (by rw [h])⟩)
          · exact .inl ⟨by simp [h1], fun h => h1 (by rw [h])⟩
        rcases hc with ⟨t1, hne⟩ | ⟨t1, t2, hne⟩ | ⟨t1, t2, t3, hne⟩ | ⟨t1, t2, t3, heq⟩
        · have hF := ne_of_at Hd.out He.out hne
          have HF := Lib.hid hF
          clear hF hne
          go_wp2_with fail
          refine wp_region_quiet_below (by kernel_rfl) (by kernel_rfl) ?_
          repeat (go_big_quiet_step (fail))
          refine wpQuiet_nil ?_
          intro _ hw'
          obtain ⟨⟨dq, osq⟩, hw''⟩ := hw'
          subst hw''
          have hbq := below_regrown wr dq osq
          generalize grow (redrawn wr dq) osq = wq at hbq ⊢
          go_wp2_with fail
          go_ret
          exact ⟨by rw [HF.out]; rfl, hb.trans (hbq.mono hbs)⟩
        · have hF := ne_of_at Hd.out He.out hne
          have HF := Lib.hid hF
          clear hF hne
          go_wp2_with fail
          refine wp_region_quiet_below (by kernel_rfl) (by kernel_rfl) ?_
          repeat (go_big_quiet_step (fail))
          refine wpQuiet_nil ?_
          intro _ hw'
          obtain ⟨⟨dq, osq⟩, hw''⟩ := hw'
          subst hw''
          have hbq := below_regrown wr dq osq
          generalize grow (redrawn wr dq) osq = wq at hbq ⊢
          go_wp2_with fail
          go_ret
          exact ⟨by rw [HF.out]; rfl, hb.trans (hbq.mono hbs)⟩
        · have hF := ne_of_at Hd.out He.out hne
          have HF := Lib.hid hF
          clear hF hne
          go_wp2_with fail
          refine wp_region_quiet_below (by kernel_rfl) (by kernel_rfl) ?_
          repeat (go_big_quiet_step (fail))
          refine wpQuiet_nil ?_
          intro _ hw'
          obtain ⟨⟨dq, osq⟩, hw''⟩ := hw'
          subst hw''
          have hbq := below_regrown wr dq osq
          generalize grow (redrawn wr dq) osq = wq at hbq ⊢
          go_wp2_with fail
          go_ret
          exact ⟨by rw [HF.out]; rfl, hb.trans (hbq.mono hbs)⟩
        · have hT := take_succ_eq Hd.out He.out Htk.out heq
          have HT := Lib.hid hT
          clear hT heq
          go_wp2_with fail
          refine wp_region_quiet_below (by kernel_rfl) (by kernel_rfl) ?_
          repeat (go_big_quiet_step (fail))
          refine wpQuiet_nil ?_
          intro _ hw'
          obtain ⟨⟨dq, osq⟩, hw''⟩ := hw'
          subst hw''
          have hbq := below_regrown wr dq osq
          generalize grow (redrawn wr dq) osq = wq at hbq ⊢
          go_wp2_with fail
          go_roundw
          case rel => exact ⟨k + 1, by omega, by go_num, HT.out, hb.trans (hbq.mono hbs)⟩
          case measure => simp [intOf]; omega
      · have hlt' : ¬ (k : Int) < l.length := by omega
        have hkl : l.length ≤ k := by omega
        have hT : decide (l = m) = true := by
          rw [decide_eq_true_iff]
          have h := Htk.out
          rw [List.take_of_length_le hkl, List.take_of_length_le (by rw [← Hlen.out]; exact hkl)] at h
          exact h
        have HT := Lib.hid hT
        clear hT
        go_wp2_with fail
        go_ret
        exact ⟨by rw [HT.out]; rfl, hb⟩
  · have hF : decide (l = m) = false := by
      rw [decide_eq_false_iff_not]
      intro h
      exact hlen (by rw [h])
    have hle : ((l.length : Int) != m.length) = true := by rw [bne_iff_ne]; omega
    have HF := Lib.hid hF
    clear hF hlen
    go_enter Tryz.func8, Tryz.ntmps8
    go_wp2_with fail
    go_ret
    exact ⟨by rw [HF.out]; rfl, Below.refl _ _⟩

theorem parse_one : parseM ⟨#[115, 116, 101, 112, 32, 48, 32, 120, 51]⟩ = ([⟨0, 0, 0⟩, ⟨0, 0, 0⟩, ⟨0, 0, 0⟩], 0, 0) := by decide +kernel
theorem parse_two : parseM ⟨#[114, 111, 117, 110, 100, 10, 100, 101, 108, 105, 118, 101, 114, 32, 50]⟩ = ([], 2, 15) := by decide +kernel

set_option maxRecDepth 100000 in
set_option maxHeartbeats 4000000 in
theorem awake_calls (w : World) (he : Env w) : Calls Tryz.prog 4 #[] w fun e w' => e = .returned (.bool true) ∧ Below w.heap.size w w' := by
  have h1 := parse_calls ⟨#[115, 116, 101, 112, 32, 48, 32, 120, 51]⟩ w he (by decide)
  rw [parse_one] at h1
  have h2 := fun W (hE : Env W) => parse_calls ⟨#[114, 111, 117, 110, 100, 10, 100, 101, 108, 105, 118, 101, 114, 32, 50]⟩ W hE (by decide)
  rw [parse_two] at h2
  have H2 := Lib.hid h2
  clear h2
  go_enter Tryz.func4, Tryz.ntmps4
  go_wp2_with fail
  refine h1.mono ?_
  rintro e w1 ⟨A1, c1, rfl, hs1, hc1, hb1⟩
  have hE1 := he.below hb1 (Nat.le_refl _)
  have hs := hb1.size
  clear h1
  go_wp2_with fail
  refine (H2.out w1 hE1).mono ?_
  rintro e w2 ⟨A2, c2, rfl, hs2, hc2, hb2⟩
  have hss := hb2.size
  have hs12 := (hs1.below hb2 (Nat.le_refl _)).mono hss
  clear hs1 hs2
  go_wp2_with fail
  have hbA := Below.alloc (Below.refl w2.heap.size w2) (Nat.le_refl _) (.cells #[.int .i64 0, .int .i64 0, .int .i64 0, .int .i64 0, .int .i64 0, .int .i64 0, .int .i64 0, .int .i64 0, .int .i64 0] 36)
  have hsA : (w2.alloc (.cells #[.int .i64 0, .int .i64 0, .int .i64 0, .int .i64 0, .int .i64 0, .int .i64 0, .int .i64 0, .int .i64 0, .int .i64 0] 36)).heap.size = w2.heap.size + 1 := World.size_alloc _ _
  have hm3 : SliceAt doC 3 (w2.alloc (.cells #[.int .i64 0, .int .i64 0, .int .i64 0, .int .i64 0, .int .i64 0, .int .i64 0, .int .i64 0, .int .i64 0, .int .i64 0] 36)) (w2.heap.size + 1) (some ⟨w2.heap.size, 0, none⟩) [⟨0, 0, 0⟩, ⟨0, 0, 0⟩, ⟨0, 0, 0⟩] := by
    refine .inr ⟨w2.heap.size, 0, rfl, by omega, fun i x hx j u hu => ?_⟩
    rw [World.cell?_alloc_new]
    rcases i with _ | _ | _ | i
    · cases hx
      rcases j with _ | _ | _ | j <;> simp [doC] at hu ⊢ <;> exact hu
    · cases hx
      rcases j with _ | _ | _ | j <;> simp [doC] at hu ⊢ <;> exact hu
    · cases hx
      rcases j with _ | _ | _ | j <;> simp [doC] at hu ⊢ <;> exact hu
    · simp at hx
  rw [← hsA] at hm3
  have hs3 := (hs12.below hbA (Nat.le_refl _)).mono hbA.size
  have h3 := same_calls A1 _ c1 3 [⟨0, 0, 0⟩, ⟨0, 0, 0⟩, ⟨0, 0, 0⟩] [⟨0, 0, 0⟩, ⟨0, 0, 0⟩, ⟨0, 0, 0⟩] _ hs3 hm3 (by decide) (by decide)
  rw [decide_eq_true rfl] at h3
  refine h3.mono ?_
  rintro e w3 ⟨rfl, hb3⟩
  go_wp2_with fail
  go_ret
  exact ⟨rfl, hb1.trans ((hb2.trans ((hbA.trans (hb3.mono (by rw [hsA]; omega))).mono hss)).mono hs)⟩
end Go.Proofs.YtbhmocfiifmmcaaGreatDoor
