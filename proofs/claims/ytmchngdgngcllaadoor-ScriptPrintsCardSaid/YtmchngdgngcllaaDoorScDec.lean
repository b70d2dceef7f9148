/- The contract of the reference's decimals: the decimal digits of a number from 0 on. -/
import Derived.Test.YtmchngdgngcllaaDoorScBase
import Derived.IntWalk
import Derived.Lib.ItoaLen
import Derived.Laws.BytesString
namespace Go.Proofs.YtmchngdgngcllaaDoor
open Go.RowKit Go.Lib Go.Sort

theorem run_byte_string (w : World) (c : Int) : (convert 39 9 (.slice (some ⟨w.heap.size, 0, none⟩) 1 1)).run Tryd.prog (w.alloc (.cells #[.int .u8 c] 5)) = .ok (.string ⟨#[UInt8.ofNat c.toNat]⟩) (w.alloc (.cells #[.int .u8 c] 5)) := by
  rw [run_convert_bytes_string _ _ _ _ _ _ _ Tryd.underlying39 Tryd.underlying5 Tryd.underlying9]
  have h := run_bytesToString (P := Tryd.prog) (w.alloc (.cells #[.int .u8 c] 5)) ⟨w.heap.size, 0, none⟩ 1 1 [c]
  rw [h (by simp [go_sem])]
  rfl

set_option maxRecDepth 100000 in
theorem dec_small (n : Int) (w : World) (h0 : 0 ≤ n) (h9 : n ≤ 9) :
    Calls Tryd.prog 19 #[.int .i64 n] w fun e w' => e = .returned (.string ⟨(decDigits n.toNat).toArray⟩) ∧ Below w.heap.size w w' := by
  have hr := fun W => run_byte_string W
  go_enter Tryd.func19, Tryd.ntmps19
  go_wp2_with fail
  go_ret
  refine ⟨?_, (Below.refl _ _).alloc (Nat.le_refl _) _⟩
  rw [decDigits, dif_pos (by omega)]
  have : (48 + n % 10).toNat = 48 + n.toNat := by omega
  simp [this]

set_option maxRecDepth 100000 in
theorem dec_calls (n : Nat) : ∀ (m : Int) (w : World), m.toNat = n → 0 ≤ m → m < 1000000000 →
    Calls Tryd.prog 19 #[.int .i64 m] w fun e w' => e = .returned (.string ⟨(decDigits m.toNat).toArray⟩) ∧ Below w.heap.size w w' := by
  induction n using Nat.strongRecOn with
  | ind n ih =>
    intro m w hm h0 hn
    by_cases h9 : 9 < m
    · have hi : ∀ W, Calls Tryd.prog 19 #[.int .i64 (m / 10)] W fun e w' => e = .returned (.string ⟨(decDigits (m / 10).toNat).toArray⟩) ∧ Below W.heap.size W w' :=
        fun W => ih (m / 10).toNat (by omega) (m / 10) W rfl (by omega) (by omega)
      have hlen : (decDigits (m / 10).toNat).length ≤ 21 := by
        have := itoa_length_le (m / 10) (by omega) (by omega)
        rwa [Sc.itoa_pos (by omega)] at this
      have hd : decDigits m.toNat = decDigits (m / 10).toNat ++ [UInt8.ofNat (48 + m % 10).toNat] := by
        rw [decDigits, dif_neg (by omega)]
        have e1 : m.toNat / 10 = (m / 10).toNat := by omega
        have e2 : (48 + m % 10).toNat = 48 + m.toNat % 10 := by omega
        rw [e1, e2]
      rw [hd]
      clear ih hm hd
      generalize decDigits (m / 10).toNat = ld at hi hlen ⊢
      have hr := fun W => run_byte_string W
      have hs : ¬ 9223372036854775807 < ld.length + 1 := by omega
      go_enter Tryd.func19, Tryd.ntmps19
      go_wp2_with (go_at_call 19; refine (hi _).mono ?_; rintro e w1 ⟨rfl, hb⟩)
      go_ret
      have e1 := ba_lists ld [UInt8.ofNat (48 + m % 10).toNat]
      refine ⟨congrArg (fun s => Ending.returned (Value.string s)) e1, ((Below.refl _ _).alloc (Nat.le_refl _) _).trans (hb.mono (by simp))⟩
    · exact dec_small m w h0 (by omega)
end Go.Proofs.YtmchngdgngcllaaDoor
