/- The walk of the law ScriptPrints: at every list of things it returns true. -/
import Derived.Test.YtmchngdgngcllaaDoorScAwake
import Derived.Test.YtmchngdgngcllaaDoorScRef
namespace Go.Proofs.YtmchngdgngcllaaDoor
open Go.RowKit Go.Lib Go.Sort

set_option maxRecDepth 100000 in
set_option maxHeartbeats 4000000 in
theorem scriptPrints_calls (A : Option Addr) (c : Nat) (l : List Sc.D) (w : World) (he : Env w) (hl : SliceAt doC 3 w w.heap.size A l) (hcap : l.length ≤ c) (hcm : c ≤ maxLen) (hwf : ∀ d ∈ l, I64 d.a ∧ I64 d.b) :
    Calls Tryd.prog 3 #[.slice A l.length c] w fun e w' => e = .returned (.bool true) ∧ Below w.heap.size w w' := by
  have hA := fun W (hE : Env W) => awake_calls W hE
  have HA := Lib.hid hA
  clear hA
  by_cases hn : 200 < l.length
  · have hn1 : (200 : Int) < l.length := by omega
    go_enter Tryd.func3, Tryd.ntmps3
    go_wp2_with fail
    refine (HA.out w he).mono ?_
    rintro e w1 ⟨rfl, hb⟩
    go_wp2_with fail
    go_ret
    exact ⟨rfl, hb⟩
  · have hn1 : ¬ (200 : Int) < l.length := by omega
    have hn4 : l.length ≤ 4096 := by omega
    obtain ⟨s, e0, hP, hR⟩ : ∃ (s : ByteArray) (e0 : Int), (∀ W, Env W → SliceAt doC 3 W W.heap.size A l → Calls Tryd.prog 5 #[.slice A l.length c] W fun e w' => e = .returned (.tuple #[.string s, .int .i64 e0]) ∧ Below W.heap.size W w') ∧
        ∀ W B c', SliceAt doC 3 W W.heap.size B l → Calls Tryd.prog 6 #[.slice B l.length c'] W fun e w' => e = .returned (.tuple #[.string s, .int .i64 e0]) ∧ Below W.heap.size W w' := by
      by_cases hok : ∀ d ∈ l, Sc.may d
      · exact ⟨_, _, fun W hE hs => print_ok A c l W hs hn4 hcap hcm hE.forms hE.pow hok hwf, fun W B c' hs => ref_ok B c' l W hs hn4 hok⟩
      · have hbad : ∃ (j : Nat) (d : Sc.D), l[j]? = some d ∧ ¬ Sc.may d := by
          rw [Classical.not_forall] at hok
          obtain ⟨d, hd⟩ := hok
          rw [Classical.not_imp] at hd
          obtain ⟨j, hj⟩ := List.mem_iff_getElem?.1 hd.1
          exact ⟨j, d, hj, hd.2⟩
        exact ⟨_, _, fun W hE hs => print_bad A c l W hs hn4 hE.forms hbad, fun W B c' hs => ref_bad B c' l W hs hn4 hbad⟩
    have HP := Lib.hid hP
    have HR := Lib.hid hR
    clear hP hR
    go_enter Tryd.func3, Tryd.ntmps3
    go_wp2_with fail
    refine (HP.out w he hl).mono ?_
    rintro e w1 ⟨rfl, hb1⟩
    have he1 := he.below hb1 (Nat.le_refl _)
    have hs1 := hb1.size
    have hl1 := (hl.below hb1 (Nat.le_refl _)).mono hs1
    go_wp2_with fail
    refine (plain_calls A c l w1 hl1 hn4).mono ?_
    rintro e w2 ⟨B, c', rfl, hl2, hb2⟩
    have hs2 := hb2.size
    have he2 := he1.below hb2 (Nat.le_refl _)
    go_wp2_with fail
    refine (HR.out w2 B c' hl2).mono ?_
    rintro e w3 ⟨rfl, hb3⟩
    have he3 := he2.below hb3 (Nat.le_refl _)
    have hb13 := hb1.trans ((hb2.trans (hb3.mono hs2)).mono hs1)
    have hs13 := hb13.size
    clear hl hl1 hl2 he1 he2
    go_wp2_with fail
    refine (HA.out w3 he3).mono ?_
    rintro e w4 ⟨rfl, hb4⟩
    go_wp2_with fail
    go_ret
    exact ⟨rfl, hb13.trans (hb4.mono hs13)⟩
end Go.Proofs.YtmchngdgngcllaaDoor
