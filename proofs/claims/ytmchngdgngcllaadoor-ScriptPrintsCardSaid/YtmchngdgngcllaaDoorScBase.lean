/- Contracts of the small functions of package script and of the reference for it: told, may, text; Told, name, Many, decimals. -/
import Derived.Test.YtmchngdgngcllaaDoorShelf
import Derived.Test.YtmchngdgngcllaaDoorShelfB
import Derived.Test.YtmchngdgngcllaaDoorScPure
import Derived.WalkKit
import Derived.WalkSpells
import Derived.Deep.QuietTactic
import Derived.BigQuiet
import Derived.Lib.QuietBelow
import Derived.Lib.SmallJoins
import Derived.Lib.Hide
namespace Go.Proofs.YtmchngdgngcllaaDoor
open Go.RowKit Go.Lib Go.Sort

def doV (d : Sc.D) : Value := .agg #[.int .i64 d.x, .int .i64 d.a, .int .i64 d.b]
def strV (l : List UInt8) : Value := .string ⟨l.toArray⟩

/-- the table of forms, cell by cell -/
structure Forms (w : World) : Prop where
  c0 : w.cell? ⟨0, 0, none⟩ = some (.string ⟨#[115, 116, 101, 112]⟩)
  c1 : w.cell? ⟨0, 1, none⟩ = some (.int .i64 1)
  c2 : w.cell? ⟨0, 2, none⟩ = some (.string ⟨#[100, 101, 108, 105, 118, 101, 114]⟩)
  c3 : w.cell? ⟨0, 3, none⟩ = some (.int .i64 2)
  c4 : w.cell? ⟨0, 4, none⟩ = some (.string ⟨#[114, 111, 117, 110, 100]⟩)
  c5 : w.cell? ⟨0, 5, none⟩ = some (.int .i64 0)
  c6 : w.cell? ⟨0, 6, none⟩ = some (.string ⟨#[99, 97, 110, 99, 101, 108]⟩)
  c7 : w.cell? ⟨0, 7, none⟩ = some (.int .i64 1)
theorem Forms.lt {w : World} (h : Forms w) : 0 < w.heap.size := World.block_lt_of_cell? _ _ h.c0
theorem Forms.below {w w' : World} {B : Nat} (h : Forms w) (hb : Below B w w') (hB : w.heap.size ≤ B) : Forms w' := by
  have hl := h.lt
  have k : ∀ o, w'.cell? ⟨0, o, none⟩ = w.cell? ⟨0, o, none⟩ := fun o => hb.cell (p := ⟨0, o, none⟩) (by simp; omega)
  exact ⟨(k _).trans h.c0, (k _).trans h.c1, (k _).trans h.c2, (k _).trans h.c3, (k _).trans h.c4, (k _).trans h.c5, (k _).trans h.c6, (k _).trans h.c7⟩

theorem x_cases {x : Int} (h0 : 0 ≤ x) (h1 : x ≤ 3) : x = 0 ∨ x = 1 ∨ x = 2 ∨ x = 3 := by omega
theorem cell_b {w : World} {b o : Nat} {v : Value} (h : w.cell? ⟨b, o, none⟩ = some v) : b < w.heap.size := World.block_lt_of_cell? _ _ h

theorem told_calls (d : Sc.D) (w : World) (hf : Forms w) (h0 : 0 ≤ d.x) (h1 : d.x ≤ 3) :
    Calls Tryd.prog 11 #[doV d] w fun e w' => e = .returned (doV (Sc.told d)) ∧ Below w.heap.size w w' := by
  obtain ⟨x, a, b⟩ := d
  have hl := hf.lt
  obtain ⟨c0, c1, c2, c3, c4, c5, c6, c7⟩ := hf
  unfold doV Sc.told
  simp only at h0 h1 ⊢
  rcases x_cases h0 h1 with rfl | rfl | rfl | rfl
  all_goals
    go_enter Tryd.func11, Tryd.ntmps11
    go_wp2
    refine bodyPost_ret (v := .agg #[.int .i64 _, .int .i64 (Sc.ta _ a), .int .i64 (Sc.tb _ b)]) (by simp [results, Tryd.results11, go_sem, Sc.ta, Sc.tb, Sc.nums]) rfl ⟨rfl, ?_⟩
    repeat (first | exact Below.refl _ _ | refine Below.setCell ?_ (by simp) _ | refine Below.alloc ?_ (by simp) _)

theorem bcell {W w1 : World} {B : Nat} (hb : Below B W w1) : (∀ b o, b < B → w1.cell? ⟨b, o, none⟩ = W.cell? ⟨b, o, none⟩) ∧ (∀ b o, b < B → w1.frozen? ⟨b, o, none⟩ = W.frozen? ⟨b, o, none⟩) :=
  ⟨fun b o h => hb.cell (p := ⟨b, o, none⟩) h, fun b o h => hb.frozen (p := ⟨b, o, none⟩) h⟩

theorem may_out (d : Sc.D) (w : World) (h : d.x < 0 ∨ 3 < d.x) :
    Calls Tryd.prog 10 #[doV d] w fun e w' => e = .returned (.bool false) ∧ Below w.heap.size w w' := by
  obtain ⟨x, a, b⟩ := d
  unfold doV
  simp only at h ⊢
  rcases h with h | h
  · go_enter Tryd.func10, Tryd.ntmps10
    go_wp2
    go_ret
    exact ⟨rfl, (Below.refl _ _).alloc (Nat.le_refl _) _⟩
  · have h0 : ¬ x < 0 := by omega
    have h4 : 4 ≤ x := by omega
    go_enter Tryd.func10, Tryd.ntmps10
    go_wp2
    go_ret
    exact ⟨rfl, (Below.refl _ _).alloc (Nat.le_refl _) _⟩

theorem may_core (x a b p q : Int) (w : World) (h0 : 0 ≤ x) (h1 : x ≤ 3)
    (hT : ∀ o : Obj, Calls Tryd.prog 11 #[.agg #[.int .i64 x, .int .i64 a, .int .i64 b]] (w.alloc o) fun e w' => e = .returned (.agg #[.int .i64 x, .int .i64 p, .int .i64 q]) ∧ Below (w.heap.size + 1) (w.alloc o) w') :
    Calls Tryd.prog 10 #[.agg #[.int .i64 x, .int .i64 a, .int .i64 b]] w fun e w' => e = .returned (.bool (decide (0 ≤ p) && decide (p ≤ 4095) && decide (0 ≤ q) && decide (q ≤ 4095))) ∧ Below w.heap.size w w' := by
  have e0 : ¬ x < 0 := by omega
  have e4 : ¬ 4 ≤ x := by omega
  go_enter Tryd.func10, Tryd.ntmps10
  go_wp2_with (go_at_call 11; refine (hT _).mono ?_; rintro e w1 ⟨rfl, hb⟩; obtain ⟨hc, hz⟩ := bcell hb; have hs := hb.size)
  all_goals
    go_ret
    refine ⟨by first | (simp [*]; done) | (simp [*]; omega), ?_⟩
    repeat (first | exact Below.refl _ _ | refine Below.setCell ?_ (by simp) _ | refine Below.alloc ?_ (by simp) _ | exact ((Below.refl _ _).alloc (Nat.le_refl _) _).trans (hb.mono (by simp)))

theorem may_calls (d : Sc.D) (w : World) (hf : Forms w) :
    Calls Tryd.prog 10 #[doV d] w fun e w' => e = .returned (.bool (decide (Sc.may d))) ∧ Below w.heap.size w w' := by
  by_cases h0 : d.x < 0 ∨ 3 < d.x
  · have : ¬ Sc.may d := by unfold Sc.may; omega
    rw [decide_eq_false this]
    exact may_out d w h0
  · obtain ⟨x, a, b⟩ := d
    simp only at h0
    refine (may_core x a b (Sc.ta x a) (Sc.tb x b) w (by omega) (by omega) fun o => ?_).mono ?_
    · exact (told_calls ⟨x, a, b⟩ (w.alloc o) (hf.below ((Below.refl _ _).alloc (Nat.le_refl _) _) (Nat.le_refl _)) (by simp only; omega) (by simp only; omega)).mono fun _ _ h => by simpa [doV, Sc.told] using h
    · rintro e w' ⟨rfl, hb⟩
      refine ⟨?_, hb⟩
      have : decide (Sc.may ⟨x, a, b⟩) = (decide (0 ≤ Sc.ta x a) && decide (Sc.ta x a ≤ 4095) && decide (0 ≤ Sc.tb x b) && decide (Sc.tb x b ≤ 4095)) := by
        have hm : Sc.may ⟨x, a, b⟩ ↔ (0 ≤ x ∧ x ≤ 3 ∧ 0 ≤ Sc.ta x a ∧ Sc.ta x a ≤ 4095 ∧ 0 ≤ Sc.tb x b ∧ Sc.tb x b ≤ 4095) := Iff.rfl
        rw [Bool.eq_iff_iff, decide_eq_true_iff, hm]
        simp only [Bool.and_eq_true, decide_eq_true_eq]
        omega
      rw [this]

theorem below_grow (w : World) (k : Nat) (os : Array Obj) : Below w.heap.size w (grow (w.drewN k) os) :=
  ⟨rfl, rfl, rfl, by simp [grow, World.drewN], fun i hi => by simp [grow, World.drewN, Array.getElem?_append, hi]⟩

theorem itoa_calls (n : Int) (w : World) (h0 : -9223372036854775808 ≤ n) (h1 : n ≤ 9223372036854775807) (htab : Lib.TabIs Tryd.prog w "internal/strconv.uint64pow10" .u64 Lib.pow10Tab) :
    Calls Tryd.prog 14 #[.int .i64 n] w fun e w' => e = .returned (strV (itoa n)) ∧ Below w.heap.size w w' :=
  (Tryd.strconv_Itoa n h0 h1 w htab).mono fun _ _ ⟨he, k, os, hw⟩ => ⟨he, by rw [hw]; exact below_grow w k os⟩

theorem ba_append (a b : Array UInt8) : (⟨a⟩ : ByteArray) ++ ⟨b⟩ = ⟨a ++ b⟩ := by
  apply ByteArray.ext; simp [ByteArray.data_append]
theorem ba_lists (a b : List UInt8) : (⟨a.toArray⟩ : ByteArray) ++ ⟨b.toArray⟩ = ⟨(a ++ b).toArray⟩ := by
  rw [ba_append]; simp

theorem text_core (x a b : Int) (la lb : List UInt8) (w : World) (hf : Forms w) (h0 : 0 ≤ x) (h1 : x ≤ 3) (hla : la.length ≤ 21) (hlb : lb.length ≤ 21)
    (hA : ∀ w', Below w.heap.size w w' → Calls Tryd.prog 14 #[.int .i64 a] w' fun e w'' => e = .returned (.string ⟨la.toArray⟩) ∧ Below w'.heap.size w' w'')
    (hB : ∀ w', Below w.heap.size w w' → Calls Tryd.prog 14 #[.int .i64 b] w' fun e w'' => e = .returned (.string ⟨lb.toArray⟩) ∧ Below w'.heap.size w' w'') :
    Calls Tryd.prog 13 #[.agg #[.int .i64 x, .int .i64 a, .int .i64 b]] w fun e w' => e = .returned (strV (Sc.word x ++ ((if 0 < Sc.nums x then 32 :: la else []) ++ (if 1 < Sc.nums x then 32 :: lb else [])))) ∧ Below w.heap.size w w' := by
  have hl := hf.lt
  obtain ⟨c0, c1, c2, c3, c4, c5, c6, c7⟩ := hf
  have hbase : Below w.heap.size w (w.alloc (.cells #[.int .i64 x, .int .i64 a, .int .i64 b] 36)) := (Below.refl _ _).alloc (Nat.le_refl _) _
  have sA : ¬ 9223372036854775807 < 1 + la.length := by omega
  have sA2 : ¬ 9223372036854775807 < 4 + (1 + la.length) := by omega
  have sA3 : ¬ 9223372036854775807 < 7 + (1 + la.length) := by omega
  have sA4 : ¬ 9223372036854775807 < 6 + (1 + la.length) := by omega
  have sB : ¬ 9223372036854775807 < 1 + lb.length := by omega
  have sB2 : ¬ 9223372036854775807 < 7 + (1 + la.length) + (1 + lb.length) := by omega
  rcases x_cases h0 h1 with rfl | rfl | rfl | rfl
  · go_enter Tryd.func13, Tryd.ntmps13
    go_wp2_with (go_at_call 14; refine (hA _ hbase).mono ?_; rintro e w1 ⟨rfl, hb⟩; obtain ⟨hc, hz⟩ := bcell hb; have hs := hb.size)
    go_ret
    refine ⟨?_, hbase.trans (hb.mono (by simp))⟩
    have e1 := ba_lists [32] la
    have e2 := ba_lists [115, 116, 101, 112] (32 :: la)
    simp only [strV, Sc.word]
    simp at e1 e2 ⊢
    rw [e1, e2]
  · go_enter Tryd.func13, Tryd.ntmps13
    go_wp2_with fail
    refine (hA _ hbase).mono ?_
    rintro e w1 ⟨rfl, hb⟩
    obtain ⟨hc, hz⟩ := bcell hb
    have hs := hb.size
    have hbase1 := hbase.trans (hb.mono (by simp))
    go_wp2_with fail
    refine (hB _ hbase1).mono ?_
    rintro e w2 ⟨rfl, hb2⟩
    go_wp2_with fail
    go_ret
    refine ⟨?_, hbase1.trans (hb2.mono hbase1.size)⟩
    have e1 := ba_lists [32] la
    have e2 := ba_lists [100, 101, 108, 105, 118, 101, 114] (32 :: la)
    have e3 := ba_lists [32] lb
    have e4 := ba_lists ([100, 101, 108, 105, 118, 101, 114] ++ (32 :: la)) (32 :: lb)
    simp only [strV, Sc.word]
    simp at e1 e2 e3 e4 ⊢
    rw [e1, e2, e3, e4]
  · go_enter Tryd.func13, Tryd.ntmps13
    go_wp2
    go_ret
    refine ⟨by simp [strV, Sc.word], hbase⟩
  · go_enter Tryd.func13, Tryd.ntmps13
    go_wp2_with (go_at_call 14; refine (hA _ hbase).mono ?_; rintro e w1 ⟨rfl, hb⟩; obtain ⟨hc, hz⟩ := bcell hb; have hs := hb.size)
    go_ret
    refine ⟨?_, hbase.trans (hb.mono (by simp))⟩
    have e1 := ba_lists [32] la
    have e2 := ba_lists [99, 97, 110, 99, 101, 108] (32 :: la)
    simp only [strV, Sc.word]
    simp at e1 e2 ⊢
    rw [e1, e2]

theorem many_calls (x : Int) (w : World) : Calls Tryd.prog 18 #[.int .i64 x] w fun e w' => e = .returned (.int .i64 (Sc.nums x)) ∧ w = w' := by
  unfold Sc.nums
  go_enter Tryd.func18, Tryd.ntmps18
  go_wp2
  all_goals (go_ret; refine ⟨?_, rfl⟩; simp_all)

theorem name_calls (x : Int) (w : World) : Calls Tryd.prog 17 #[.int .i64 x] w fun e w' => e = .returned (strV (Sc.word x)) ∧ w = w' := by
  unfold strV Sc.word
  go_enter Tryd.func17, Tryd.ntmps17
  go_wp2
  all_goals (go_ret; refine ⟨?_, rfl⟩; simp_all)

theorem Told_calls (d : Sc.D) (w : World) :
    Calls Tryd.prog 16 #[doV d] w fun e w' => e = .returned (doV (Sc.told d)) ∧ Below w.heap.size w w' := by
  obtain ⟨x, a, b⟩ := d
  unfold doV Sc.told Sc.ta Sc.tb
  simp only
  have hM := fun W => many_calls x W
  rcases Sc.nums_cases x with ⟨rfl, h⟩ | ⟨rfl, h⟩ | ⟨_, _, h⟩
  all_goals
    rw [h] at hM ⊢
    clear h
    go_enter Tryd.func16, Tryd.ntmps16
    go_wp2_with (go_at_call 18; refine (hM _).mono ?_; rintro e w1 ⟨rfl, rfl⟩)
    refine bodyPost_ret (v := .agg #[.int .i64 _, .int .i64 _, .int .i64 _]) (by simp [results, Tryd.results16, go_sem]) rfl ⟨rfl, ?_⟩
    repeat (first | exact Below.refl _ _ | refine Below.setCell ?_ (by simp) _ | refine Below.alloc ?_ (by simp) _)

end Go.Proofs.YtmchngdgngcllaaDoor
