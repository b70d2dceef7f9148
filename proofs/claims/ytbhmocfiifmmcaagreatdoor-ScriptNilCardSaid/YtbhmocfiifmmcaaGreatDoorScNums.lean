/- The contract of script's numbers: which numbers words are; the form counts ahead of the range. -/
import Derived.Test.YtbhmocfiifmmcaaGreatDoorScLine
namespace Go.Proofs.YtbhmocfiifmmcaaGreatDoor
open Go.RowKit Go.Lib Go.Sort

def numsGo (acc : List Int) (wrong : Int) : List ByteArray → List Int × Int
  | [] => if wrong ≠ 0 then ([], wrong) else (acc, 0)
  | s :: r => if (numM s.data.toList).2 = 15 then ([], 15) else numsGo (acc ++ [(numM s.data.toList).1]) (if (numM s.data.toList).2 ≠ 0 then (numM s.data.toList).2 else wrong) r
def strC (s : ByteArray) : List Value := [.string s]
theorem strC_at {w : World} {B : Nat} {A : Option Addr} {l : List ByteArray} (h : SliceAt strC 1 w B A l) {k : Nat} {d : ByteArray} (hd : l[k]? = some d) :
    ∃ b off, A = some ⟨b, off, none⟩ ∧ b < B ∧ w.cell? ⟨b, off + k, none⟩ = some (.string d) := by
  rcases h with rfl | ⟨b, off, rfl, hb, hc⟩
  · simp at hd
  · exact ⟨b, off, rfl, hb, by have := hc k d hd 0 _ rfl; simpa using this⟩
def intC (n : Int) : List Value := [.int .i64 n]
def NumsPost (r : List Int × Int) (w : World) (e : Ending) (w' : World) : Prop :=
  ∃ v, e = .returned (.tuple #[v, .int .i64 r.2]) ∧ w'.ownsRow w.heap.size 3 1 v r.1.length (r.1.flatMap intC) ∧ Below w.heap.size w w'
theorem grown_of_below {w w' : World} (h : Below w.heap.size w w') (row : Option Nat) : w.grownBy w' row :=
  ⟨h.os, h.tape, h.output, h.size, fun k hk _ => h.block k hk⟩
theorem info_int : (Tryz.prog.info? 3).map (fun i => (i.zero, i.size, i.bytes)) = some (some (.int .i64 0), 1, 8) := by kernel_rfl

set_option maxRecDepth 100000 in
theorem numbers_calls (A : Option Addr) (c : Nat) (l : List ByteArray) (w : World) (he : Env w) (hl : SliceAt strC 1 w w.heap.size A l) (hn : l.length ≤ 1000000) (hs : ∀ s ∈ l, s.size ≤ 1000000) :
    Calls Tryz.prog 21 #[.slice A l.length c] w (NumsPost (numsGo [] 0 l) w) := by
  obtain ⟨i0, hi, hz0, hz1, hz2⟩ := info_parts info_int
  go_enter Tryz.func21, Tryz.ntmps21
  go_wp2_with fail
  go_loopw [4, 5, 12] (fun v wv iv wr => ∃ (k : Nat) (acc : List Int) (wrong : Int), k ≤ l.length ∧ iv = .int .i64 k ∧ wv = .int .i64 wrong ∧ acc.length = k ∧ wr.ownsRow w.heap.size 3 1 v acc.length (acc.flatMap intC) ∧
      numsGo acc wrong (l.drop k) = numsGo [] 0 l ∧ Below w.heap.size w wr) (fun _ _ iv _ => l.length - (intOf iv).toNat)
  case atStart => exact ⟨0, [], 0, Nat.zero_le _, rfl, rfl, rfl, World.ownsRow_nil _ _ _ _, by simp, Below.refl _ _⟩
  case round =>
    obtain ⟨k, acc, wrong, hk, rfl, rfl, hacc, hown, hgo, hb⟩ := hrel
    have hbs := hb.size
    by_cases hlt : k < l.length
    · have hdr : l.drop k = l[k] :: l.drop (k + 1) := List.drop_eq_getElem_cons hlt
      have hd0 : l[k]? = some l[k] := List.getElem?_eq_getElem hlt
      have hsz := hs _ (List.getElem_mem hlt)
      generalize l[k] = s at hdr hd0 hsz
      obtain ⟨b, off, rfl, hbB, q⟩ := strC_at hl hd0
      have q' := (hb.cell (p := ⟨b, off + k, none⟩) hbB).trans q
      rw [hdr, numsGo] at hgo
      have hN := number_calls s wr (he.below hb (Nat.le_refl _)) hsz
      unfold NumPost at hN
      generalize numM s.data.toList = nm at hgo hN
      by_cases h15 : nm.2 = 15
      · rw [if_pos h15] at hgo
        have Hgo := Lib.hid hgo
        clear hgo
        go_wp2_with fail
        refine hN.mono ?_
        rintro e w1 ⟨rfl, hb1⟩
        clear hN
        rw [h15]
        go_wp2_with fail
        go_ret2
        refine ⟨_, by rw [← Hgo.out]; rfl, by rw [← Hgo.out]; exact World.ownsRow_nil _ _ _ _, hb.trans (hb1.mono hbs)⟩
      · rw [if_neg h15] at hgo
        have Hgo := Lib.hid hgo
        clear hgo
        have h15b : decide (nm.2 = 15) = false := by simp [h15]
        by_cases h0 : nm.2 = 0
        all_goals
          go_wp2_with fail
          refine hN.mono ?_
          rintro e w1 ⟨rfl, hb1⟩
          clear hN
          have hown1 := hown.kept (grown_of_below hb1 none) (by
            generalize Value.ownBlock _ = ob
            cases ob with
            | none => exact .inl rfl
            | some k => exact .inr (by simp))
          have hs1 := hb1.size
          have Hownlt := Lib.hid (fun g hg => (hown1.lt g hg).1)
          go_wp2_with (at_builtin; go_loud (refine wpList_append_own _ rfl _ _ 65 rfl w.heap.size 3 i0 _ 1 8 Tryz.underlying65 hi hz0 hz1 hz2 rfl (by decide) _ _ _ rfl (hown1.alloc _) ⟨w1.heap.size, 0, none⟩ 1 1 (intC nm.1) rfl rfl ?c1 ?c2 ?c3 ?c4 ?c5 ?_))
          case c1 =>
            intro j u hj
            rw [addr_add0, Nat.zero_add, World.cell?_alloc_new]
            simpa [intC] using hj
          case c2 => simp [intC, Value.oneCell']
          case c3 => unfold maxLen; omega
          case c4 => omega
          case c5 => simp; omega
          rintro v' w3 hown3 hgrow _
          go_wp2_with fail
          go_roundw
          case rel =>
            refine ⟨k + 1, acc ++ [nm.1], _, by omega, by go_num, rfl, by simp [hacc], ?_, ?_, ?_⟩
            · rw [List.length_append, List.flatMap_append, hacc]
              simpa using hown3
            · rw [← Hgo.out]
              simp [h0]
            · exact ((hb.trans (hb1.mono hbs)).alloc (by omega) _).grown hgrow (by simp; omega) Hownlt.out
          case measure => simp [intOf]; omega
    · have hlt' : ¬ (k : Int) < l.length := by omega
      have hkl : l.length ≤ k := by omega
      rw [List.drop_of_length_le hkl, numsGo] at hgo
      by_cases h0 : wrong = 0
      all_goals
        have Hgo := Lib.hid hgo
        clear hgo
        go_wp2_with fail
        go_ret2
      · refine ⟨_, by rw [← Hgo.out, if_neg (by simp [h0])]; rfl, by rw [← Hgo.out, if_neg (by simp [h0])]; exact hown, hb⟩
      · refine ⟨_, by rw [← Hgo.out, if_pos h0]; rfl, by rw [← Hgo.out, if_pos h0]; exact World.ownsRow_nil _ _ _ _, hb⟩
end Go.Proofs.YtbhmocfiifmmcaaGreatDoor
