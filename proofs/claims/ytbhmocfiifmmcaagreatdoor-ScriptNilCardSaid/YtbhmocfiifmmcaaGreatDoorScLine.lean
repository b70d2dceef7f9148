/- Contracts of script's number and numbers: which numbers words are. -/
import Derived.Test.YtbhmocfiifmmcaaGreatDoorScCore
import Derived.Lib.AtoiAll
import Derived.Lib.AtoiErrMem
namespace Go.Proofs.YtbhmocfiifmmcaaGreatDoor
open Go.RowKit Go.Lib Go.Sort

def digitB (c : UInt8) : Bool := decide (48 ≤ c.toNat ∧ c.toNat ≤ 57)
/-- the number that a word is, and what is wrong: 15 not written so, 10 too great -/
def numM (l : List UInt8) : Int × Int :=
  if l = [] ∨ (1 < l.length ∧ l.head? = some 48) then (0, 15)
  else if l.all digitB = false then (0, 15)
  else match atoiAll l with
    | .ok v => if 4095 < v then (0, 10) else (v, 0)
    | _ => (0, 10)

/-- what is read of the library's own variables -/
structure Env (w : World) : Prop where
  forms : Forms w
  syn : ∃ tp p, w.var? Tryz.prog "strconv.ErrSyntax" = some #[.iface tp p]
  rng : ∃ tp p, w.var? Tryz.prog "strconv.ErrRange" = some #[.iface tp p]
  maxLen : ∃ m, w.cell? ⟨1, 0, none⟩ = some (.int .i64 m)
theorem var_below {P : Program} {w w' : World} {B g : Nat} {n : String} {x : Array Value} (hg : P.globalNamed n = some g) (h : w.var? P n = some x) (hb : Below B w w') (hB : w.heap.size ≤ B) : w'.var? P n = some x := by
  unfold World.var? at *
  rw [hg] at h ⊢
  simp only [Option.bind_some] at h ⊢
  have hlt : g < w.heap.size := by
    rcases Nat.lt_or_ge g w.heap.size with h' | h'
    · exact h'
    · simp [Array.getElem?_eq_none h'] at h
  rw [hb.block g (by omega)]
  exact h
theorem Env.below {w w' : World} {B : Nat} (h : Env w) (hb : Below B w w') (hB : w.heap.size ≤ B) : Env w' := by
  obtain ⟨h1, ⟨tp, p, h3⟩, ⟨tq, q, h4⟩, ⟨m, h5⟩⟩ := h
  exact ⟨h1.below hb hB, ⟨tp, p, var_below (g := 4) (by kernel_rfl) h3 hb hB⟩, ⟨tq, q, var_below (g := 5) (by kernel_rfl) h4 hb hB⟩,
    ⟨m, (hb.cell (p := ⟨1, 0, none⟩) (by have := World.block_lt_of_cell? _ _ h5; simp at this ⊢; omega)).trans h5⟩⟩

/-- Atoi, whatever the string: a number and no error, or an error -/
theorem atoi_calls (s : ByteArray) (w : World) (he : Env w) (hs : s.size ≤ 1000000) :
    Calls Tryz.prog 60 #[.string s] w fun e w' => Below w.heap.size w w' ∧
      ((∃ v, atoiAll s.data.toList = .ok v ∧ e = .returned (.tuple #[.int .i64 v, .nilIface])) ∨ ((∀ v, atoiAll s.data.toList ≠ .ok v) ∧ ∃ (n : Int) (t : TypeId) (p : Value), e = .returned (.tuple #[.int .i64 n, .iface t p]))) := by
  obtain ⟨_, ⟨tp, p, hsy⟩, ⟨tq, q, hrg⟩, _⟩ := he
  rcases h : atoiAll s.data.toList with v | _ | _
  · refine (Tryz.strconv_Atoi_ok s (by omega) v h w).mono fun e w' ⟨h1, h2⟩ => ⟨?_, .inl ⟨v, rfl, h1⟩⟩
    rcases h2 with rfl | ⟨t, rfl⟩
    · exact Below.refl _ _
    · exact Lib.bytesWorld_below _ _ _
  · exact (Tryz.strconv_Atoi_syntax_var s (by omega) h tp p w hsy).mono fun e w' ⟨N, h1, _, _, h4⟩ => ⟨h4, .inr ⟨fun v => by simp, _, _, _, h1⟩⟩
  · exact (Tryz.strconv_Atoi_range_var s (by omega) h tq q w hrg).mono fun e w' ⟨N, h1, _, _, h4⟩ => ⟨h4, .inr ⟨fun v => by simp, _, _, _, h1⟩⟩

def NumPost (l : List UInt8) (w : World) (e : Ending) (w' : World) : Prop := e = .returned (.tuple #[.int .i64 (numM l).1, .int .i64 (numM l).2]) ∧ Below w.heap.size w w'

set_option maxRecDepth 100000 in
theorem number_calls (s : ByteArray) (w : World) (he : Env w) (hs : s.size ≤ 1000000) : Calls Tryz.prog 32 #[.string s] w (NumPost s.data.toList w) := by
  by_cases h0 : s.size = 0
  · have hnil : s.data.toList = [] := by
      apply List.eq_nil_of_length_eq_zero
      rw [Array.length_toList]
      exact h0
    have e1 : s.toList = [] := by rw [ByteArray.toList_eq]; exact hnil
    have e2 : s.toList.isEmpty = true := by rw [e1]; rfl
    have hm : numM s.data.toList = (0, 15) := by rw [hnil]; rfl
    have Hm := Lib.hid hm
    clear hm hnil h0 hs he
    go_enter Tryz.func32, Tryz.ntmps32
    go_wp2_with fail
    go_ret2
    exact ⟨by rw [Hm.out]; rfl, Below.refl _ _⟩
  have h1 : 0 < s.size := by omega
  have hne : s.data.toList ≠ [] := fun e => h0 (by have := congrArg List.length e; rw [Array.length_toList] at this; exact this)
  have hlen : s.data.toList.length = s.size := Array.length_toList
  have e1 : ¬ s.toList = [] := by rw [ByteArray.toList_eq]; exact hne
  have e2 : s.toList.isEmpty = false := by
    cases h : s.toList with
    | nil => exact absurd h e1
    | cons a l => rfl
  have hat : ∀ (j : Nat) (h : j < s.size), s.data.toList[j]? = some s[j] := fun j h => by
    rw [List.getElem?_eq_getElem (by rw [hlen]; exact h)]
    rfl
  have hhd : s.data.toList.head? = some s[0] := by rw [← hat 0 h1, List.head?_eq_getElem?]
  by_cases hz : 1 < s.size ∧ s[0] = 48
  · have hm : numM s.data.toList = (0, 15) := by
      unfold numM
      rw [if_pos (.inr ⟨by rw [hlen]; exact hz.1, by rw [hhd, hz.2]⟩)]
    have Hm := Lib.hid hm
    have hz1 : (1 : Int) < s.size := by have := hz.1; omega
    have hz2 : s[0].toNat = 48 := by rw [hz.2]; rfl
    have hz3 : ((s[0].toNat : Int) == 48) = true := by rw [hz2]; rfl
    clear hm hhd hat hlen hne hz hz2 h0 he
    go_enter Tryz.func32, Tryz.ntmps32
    go_wp2_with fail
    go_ret2
    exact ⟨by rw [Hm.out]; rfl, Below.refl _ _⟩
  · have hm0 : numM s.data.toList = if s.data.toList.all digitB = false then ((0, 15) : Int × Int) else match atoiAll s.data.toList with
        | .ok v => if 4095 < v then (0, 10) else (v, 0)
        | _ => (0, 10) := by
      rw [numM, if_neg]
      rintro (h | ⟨ha, hb⟩)
      · exact hne h
      · rw [hhd] at hb
        exact hz ⟨by rwa [hlen] at ha, by injection hb⟩
    have Hm := Lib.hid hm0
    have Hat := Lib.hid hat
    have Hlen := Lib.hid hlen
    clear hm0 hat hlen hhd hne h0
    have hc : ¬ (1 : Int) < s.size ∨ ((1 : Int) < s.size ∧ ((s[0].toNat : Int) == 48) = false) := by
      by_cases a : 1 < s.size
      · refine .inr ⟨by omega, ?_⟩
        rw [beq_eq_false_iff_ne]
        intro h
        exact hz ⟨a, UInt8.toNat_inj.1 (by have : s[0].toNat = 48 := by omega
                                           rw [this]; rfl)⟩
      · exact .inl (by omega)
    clear hz
    rcases hc with hc | ⟨hc1, hc2⟩
    all_goals
      go_enter Tryz.func32, Tryz.ntmps32
      go_wp2_with fail
      go_loop [21] (fun i => ∃ k : Nat, k ≤ s.size ∧ i = .int .i64 k ∧ ∀ (j : Nat) (h : j < s.size), j < k → digitB s[j] = true) (fun i => s.size - (intOf i).toNat)
      case atStart => exact ⟨0, Nat.zero_le _, rfl, fun j _ h => by omega⟩
      case round =>
        obtain ⟨k, hk, rfl, hd⟩ := hrel
        have Hd := Lib.hid hd
        clear hd
        by_cases hlt : k < s.size
        · have hki : (k : Int) < s.size := by omega
          by_cases hdg : digitB s[k] = true
          · have hdg' : 48 ≤ (s[k].toNat : Int) ∧ (s[k].toNat : Int) ≤ 57 := by
              simp only [digitB, decide_eq_true_eq] at hdg
              omega
            have d1 : ¬ (s[k].toNat : Int) < 48 := by omega
            have d2 : ¬ 57 < (s[k].toNat : Int) := by omega
            have Hdg := Lib.hid hdg
            clear hdg hdg'
            go_wp2_with fail
            go_round
            case rel =>
              refine ⟨k + 1, by omega, by go_num, fun j hj hjk => ?_⟩
              by_cases e : j = k
              · subst e; exact Hdg.out
              · exact Hd.out j hj (by omega)
            case measure => simp [intOf]; omega
          · have hm : numM s.data.toList = (0, 15) := by
              rw [Hm.out, if_pos]
              rw [List.all_eq_false]
              exact ⟨s[k], List.mem_of_getElem? (Hat.out k hlt), hdg⟩
            have Hm2 := Lib.hid hm
            have hdg' : (s[k].toNat : Int) < 48 ∨ (¬ (s[k].toNat : Int) < 48 ∧ 57 < (s[k].toNat : Int)) := by
              simp only [digitB, decide_eq_true_eq] at hdg
              omega
            clear hm hdg
            rcases hdg' with d1 | ⟨d1, d2⟩
            all_goals
              go_wp2_with fail
              go_ret2
              exact ⟨by rw [Hm2.out]; rfl, Below.refl _ _⟩
        · have hki : ¬ (k : Int) < s.size := by omega
          have hall : s.data.toList.all digitB = true := by
            rw [List.all_eq_true]
            intro c hc
            obtain ⟨j, hj, rfl⟩ := List.mem_iff_getElem.1 hc
            have hj' : j < s.size := by rw [← Hlen.out]; exact hj
            have := Hd.out j hj' (by omega)
            exact this
          have hm : numM s.data.toList = match atoiAll s.data.toList with
              | .ok v => if 4095 < v then ((0, 10) : Int × Int) else (v, 0)
              | _ => (0, 10) := by
            rw [Hm.out, if_neg (by rw [hall]; decide)]
          have Hm2 := Lib.hid hm
          clear hm hall
          go_wp2_with fail
          refine (atoi_calls s w he hs).mono ?_
          rintro e w1 ⟨hb, ⟨v, hv, rfl⟩ | ⟨hv, n, t, p, rfl⟩⟩
          · by_cases h95 : 4095 < v
            · have hm3 : numM s.data.toList = (0, 10) := by rw [Hm2.out, hv]; simp only; rw [if_pos h95]
              have Hm3 := Lib.hid hm3
              clear hm3 hv
              go_wp2_with fail
              go_ret2
              exact ⟨by rw [Hm3.out]; rfl, hb⟩
            · have hm3 : numM s.data.toList = (v, 0) := by rw [Hm2.out, hv]; simp only; rw [if_neg h95]
              have Hm3 := Lib.hid hm3
              clear hm3 hv
              go_wp2_with fail
              go_ret2
              exact ⟨by rw [Hm3.out]; rfl, hb⟩
          · have hm3 : numM s.data.toList = (0, 10) := by
              rw [Hm2.out]
              rcases h : atoiAll s.data.toList with v | _ | _
              · exact absurd h (hv v)
              · rfl
              · rfl
            have Hm3 := Lib.hid hm3
            clear hm3 hv
            go_wp2_with fail
            go_ret2
            exact ⟨by rw [Hm3.out]; rfl, hb⟩
end Go.Proofs.YtbhmocfiifmmcaaGreatDoor
