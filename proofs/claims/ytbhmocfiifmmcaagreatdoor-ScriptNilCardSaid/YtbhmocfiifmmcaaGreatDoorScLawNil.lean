/- The walk of the law ScriptNil: what is answered of a nil kernel. -/
import Derived.Test.YtbhmocfiifmmcaaGreatDoorScAwake
import Derived.Laws.StructEq
namespace Go.Proofs.YtbhmocfiifmmcaaGreatDoor
open Go.RowKit Go.Lib Go.Sort

theorem run_nil (s : ByteArray) (w : World) : Calls Tryz.prog 5 #[.pointer none, .string s] w fun e w' => e = .returned (.tuple #[.agg #[.int .i64 0, .int .i64 0, .int .i64 0], .int .i64 2]) ∧ Below w.heap.size w w' := by
  go_enter Tryz.func5, Tryz.ntmps5
  go_wp2_with fail
  go_step3
  go_wp2_with fail
  (try rw [Exit.noGoto_ret])
  refine bodyPost_ret (v := .tuple #[.agg #[.int .i64 0, .int .i64 0, .int .i64 0], .int .i64 2]) (by simp [results, Tryz.results5, go_sem]) rfl ⟨rfl, ?_⟩
  repeat (first | exact Below.refl _ _ | refine Below.setCell ?_ (by simp) _ | refine Below.alloc ?_ (by simp) _ | refine Below.drew ?_)
theorem calm_nil (a b : Int) (w : World) : Calls Tryz.prog 6 #[.pointer none, .int .i64 a, .int .i64 b] w fun e w' => e = .returned (.tuple #[.int .i64 0, .bool false]) ∧ Below w.heap.size w w' := by
  go_enter Tryz.func6, Tryz.ntmps6
  go_wp2_with fail
  refine bodyPost_ret (v := .tuple #[.int .i64 0, .bool false]) (by simp [results, Tryz.results6, go_sem]) rfl ⟨rfl, ?_⟩
  repeat (first | exact Below.refl _ _ | refine Below.setCell ?_ (by simp) _ | refine Below.alloc ?_ (by simp) _ | refine Below.drew ?_)

theorem toldEq (W : World) : (binOp .eql 24 (.agg #[.int .i64 0, .int .i64 0, .int .i64 0]) (.agg #[.int .i64 0, .int .i64 0, .int .i64 0])).run Tryz.prog W = .ok (.bool true) W := by
  have u3 := Tryz.underlying3
  have a3 := Tryz.isAgg3
  have z3 := Tryz.sizeOf3
  have hS : Tryz.prog.underlying 24 = some (.struct (Tryz.prog.fieldsOf 24)) := by kernel_rfl
  have hp : Tryz.prog.stoodInHeld 24 = false := by kernel_rfl
  rw [run_eql_struct, show (10000 : Nat) = 9999 + 1 from rfl, run_equalIn_agg W 9999 24 _ _ hS hp]
  simp only [Program.fieldsOf, Tryz.underlying24]
  go_simp

set_option maxRecDepth 100000 in
set_option maxHeartbeats 4000000 in
theorem scriptNil_calls (s : ByteArray) (a b : Int) (w : World) (he : Env w) :
    Calls Tryz.prog 3 #[.string s, .int .i64 a, .int .i64 b] w fun e w' => e = .returned (.bool true) ∧ Below w.heap.size w w' := by
  have hA := fun W (hE : Env W) => awake_calls W hE
  have HA := Lib.hid hA
  clear hA
  by_cases hn : 100 < s.size
  · have hn1 : (100 : Int) < s.size := by omega
    go_enter Tryz.func3, Tryz.ntmps3
    go_wp2_with fail
    refine (HA.out w he).mono ?_
    rintro e w1 ⟨rfl, hb⟩
    go_wp2_with fail
    go_ret
    exact ⟨rfl, hb⟩
  · have hn1 : ¬ (100 : Int) < s.size := by omega
    go_enter Tryz.func3, Tryz.ntmps3
    go_wp2_with fail
    refine (run_nil s _).mono ?_
    rintro e w1 ⟨rfl, hb1⟩
    have hs1 := hb1.size
    go_wp2_with fail
    refine (calm_nil a b _).mono ?_
    rintro e w2 ⟨rfl, hb2⟩
    have hs2 := hb2.size
    have hlt : w1.heap.size < (w1.alloc (.cells #[.int .i64 0, .int .i64 0, .int .i64 0] 24)).heap.size := by rw [World.size_alloc]; exact Nat.lt_succ_self _
    have k0 := ((bcell hb2).1 w1.heap.size 0 hlt).trans (World.cell?_alloc_new w1 #[.int .i64 0, .int .i64 0, .int .i64 0] 24 0)
    have k1 := ((bcell hb2).1 w1.heap.size 1 hlt).trans (World.cell?_alloc_new w1 #[.int .i64 0, .int .i64 0, .int .i64 0] 24 1)
    have k2 := ((bcell hb2).1 w1.heap.size 2 hlt).trans (World.cell?_alloc_new w1 #[.int .i64 0, .int .i64 0, .int .i64 0] 24 2)
    simp only [List.getElem?_toArray, List.getElem?_cons_zero, List.getElem?_cons_succ] at k0 k1 k2
    have hb12 := (hb1.trans (((Below.refl w1.heap.size w1).alloc (Nat.le_refl _) _).mono hs1)).trans (hb2.mono (Nat.le_trans hs1 (Nat.le_of_lt hlt)))
    have he2 := he.below hb12 (Nat.le_refl _)
    have hs12 := hb12.size
    have hq := toldEq
    have HB := Lib.hid hb12
    clear hb1 hb2 hs1 hs2 hlt hb12
    go_wp2_with fail
    refine (HA.out w2 he2).mono ?_
    rintro e w3 ⟨rfl, hb3⟩
    clear hq k0 k1 k2
    go_wp2_with fail
    go_ret
    exact ⟨rfl, HB.out.trans (hb3.mono hs12)⟩
end Go.Proofs.YtbhmocfiifmmcaaGreatDoor
