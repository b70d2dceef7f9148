/- The contract of script's Parse: what a text tells, or which line of it is wrong. -/
import Derived.Test.YtbhmocfiifmmcaaGreatDoorScLine2
import Derived.Maps.AppendAt
import Derived.Lib.SplitLaws
namespace Go.Proofs.YtbhmocfiifmmcaaGreatDoor
open Go.RowKit Go.Lib Go.Sort

def parseGo (acc : List Sc.D) (i : Nat) : List ByteArray → List Sc.D × Int × Int
  | [] => (acc, 0, 0)
  | s :: r =>
    if (lineW (wordsM s)).2.2 ≠ 0 then ([], (i : Int) + 1, (lineW (wordsM s)).2.2)
    else if 4096 < (acc.length : Int) + (lineW (wordsM s)).2.1 then ([], (i : Int) + 1, 11)
    else parseGo (acc ++ List.replicate (lineW (wordsM s)).2.1.toNat (lineW (wordsM s)).1) (i + 1) r
def nlS : ByteArray := ⟨#[10]⟩
def linesM (s : ByteArray) : List ByteArray := Lib.splitB nlS 0 (Lib.countB s nlS) s
def parseM (s : ByteArray) : List Sc.D × Int × Int := if 65536 < s.size then ([], 0, 11) else parseGo [] 0 (linesM s)
def ParsePost (r : List Sc.D × Int × Int) (w : World) (e : Ending) (w' : World) : Prop :=
  ∃ A c, e = .returned (.tuple #[.slice A r.1.length c, .int .i64 r.2.1, .int .i64 r.2.2]) ∧ SliceAt doC 3 w' w'.heap.size A r.1 ∧ (r.1 = [] ∨ r.1.length ≤ c) ∧ Below w.heap.size w w'

theorem numM_bounds (l : List UInt8) : 0 ≤ (numM l).1 ∧ (numM l).1 ≤ 4095 := by
  unfold numM
  split
  · simp
  split
  · simp
  · rename_i h1 h2
    split
    · rename_i v hv
      split
      · simp
      · refine ⟨?_, by simp; omega⟩
        simp only
        cases l with
        | nil => exact absurd (.inl rfl) h1
        | cons c r =>
          rw [Bool.not_eq_false, List.all_cons, Bool.and_eq_true] at h2
          have hc := h2.1
          simp only [digitB, decide_eq_true_eq] at hc
          unfold atoiAll at hv
          simp only [show ¬ c.toNat = 45 by omega, show ¬ (c.toNat = 43 ∨ c.toNat = 45) by omega, if_false] at hv
          split at hv
          · cases hv
          · cases hv
          · split at hv
            · cases hv
            · split at hv
              · cases hv
              · injection hv with hv
                omega
    · simp
theorem numsGo_bounds (l : List ByteArray) : ∀ (acc : List Int) (wr : Int), (∀ n ∈ acc, 0 ≤ n ∧ n ≤ 4095) → ∀ n ∈ (numsGo acc wr l).1, 0 ≤ n ∧ n ≤ 4095 := by
  induction l with
  | nil =>
    intro acc wr h
    unfold numsGo
    split
    · intro n hn; cases hn
    · exact h
  | cons a l ih =>
    intro acc wr h
    unfold numsGo
    split
    · intro n hn; cases hn
    · refine ih _ _ fun n hn => ?_
      rcases List.mem_append.1 hn with h1 | h1
      · exact h n h1
      · rw [List.mem_singleton] at h1
        rw [h1]
        exact numM_bounds _
theorem getD_bounds {l : List Int} (h : ∀ n ∈ l, 0 ≤ n ∧ n ≤ 4095) (i : Nat) : 0 ≤ l[i]?.getD 0 ∧ l[i]?.getD 0 ≤ 4095 := by
  cases hi : l[i]? with
  | none => simp
  | some n => exact h n (List.mem_of_getElem? hi)
theorem tellM_times (k n : Nat) (r : List Int × Int) : (tellM k n r).2.1 = 0 ∨ (tellM k n r).2.1 = r.1[0]?.getD 0 := by
  by_cases h1 : r.2 ≠ 0
  · left; unfold tellM; rw [if_pos h1]
  · by_cases h2 : r.1[0]?.getD 0 = 0
    · left; unfold tellM; rw [if_neg h1, if_pos h2]
    · right; unfold tellM; rw [if_neg h1, if_neg h2]
theorem lineW_times (ws : List ByteArray) : 0 ≤ (lineW ws).2.1 ∧ (lineW ws).2.1 ≤ 4095 := by
  cases ws with
  | nil => simp [lineW]
  | cons x t =>
    rw [lineW]
    by_cases h0 : formIx x = 4 ∨ (timesM t).2.length ≠ numsN (formIx x)
    · rw [if_pos h0]; simp
    · rw [if_neg h0]
      have hb := getD_bounds (numsGo_bounds ((timesM t).1 :: (timesM t).2) [] 0 (fun _ h => absurd h List.not_mem_nil)) 0
      generalize numsGo [] 0 ((timesM t).1 :: (timesM t).2) = r at hb
      rcases tellM_times (formIx x) (timesM t).2.length r with h | h
      · rw [h]; simp
      · rw [h]; exact hb
theorem info_do : (Tryz.prog.info? 39).map (fun i => (i.zero, i.size, i.bytes)) = some (some (.agg #[.int .i64 0, .int .i64 0, .int .i64 0]), 3, 24) := by kernel_rfl
theorem splitB_size (sep : ByteArray) (n : Nat) : ∀ (s x : ByteArray), x ∈ Lib.splitB sep 0 n s → x.size ≤ s.size := by
  induction n with
  | zero => intro s x h; rw [Lib.splitB_zero, List.mem_singleton] at h; rw [h]; exact Nat.le_refl _
  | succ n ih =>
    intro s x h
    unfold Lib.splitB at h
    split at h
    · rw [List.mem_singleton] at h; rw [h]; exact Nat.le_refl _
    · rcases List.mem_cons.1 h with rfl | h
      · rw [ByteArray.size_extract]; omega
      · refine Nat.le_trans (ih _ _ h) ?_
        rw [ByteArray.size_extract]; omega

set_option maxRecDepth 100000 in
set_option maxHeartbeats 4000000 in
theorem parse_calls (s : ByteArray) (w : World) (he : Env w) (hs : s.size ≤ 1000000) :
    Calls Tryz.prog 7 #[.string s] w (ParsePost (parseM s) w) := by
  by_cases hbig : 65536 < s.size
  · have hm : parseM s = ([], 0, 11) := by rw [parseM, if_pos hbig]
    have Hm := Lib.hid hm
    have hbi : (65536 : Int) < s.size := by omega
    clear hm hbig he hs
    go_enter Tryz.func7, Tryz.ntmps7
    go_wp2_with fail
    refine bodyPost_ret (v := .tuple #[.slice none 0 0, .int .i64 0, .int .i64 11]) (by simp [results, Tryz.results7, go_sem]) rfl ⟨none, 0, by rw [Hm.out]; rfl, .inl (by rw [Hm.out]), .inl (by rw [Hm.out]), Below.refl _ _⟩
  have hm : parseM s = parseGo [] 0 (linesM s) := by rw [parseM, if_neg hbig]
  have hbi : ¬ (65536 : Int) < s.size := by omega
  have hml := Lib.splitB_all nlS (by decide) 0 (Lib.countB s nlS) s rfl
  have hmc := Lib.countB_le nlS (by decide) s.size s (Nat.le_refl _)
  have hmz := splitB_size nlS (Lib.countB s nlS) s
  obtain ⟨m, hmx⟩ := he.maxLen
  obtain ⟨i0, hi, hz0, hz1, hz2⟩ := info_parts info_do
  rw [hm]
  unfold linesM
  have Hsp : Hid (∀ W : World, W.cell? ⟨1, 0, none⟩ = some (.int .i64 m) → Calls Tryz.prog 12 #[.string s, .string nlS] W fun e w' =>
      e = .returned (.slice (some ⟨W.heap.size, 0, none⟩) (Lib.splitB nlS 0 (Lib.countB s nlS) s).length (Lib.splitB nlS 0 (Lib.countB s nlS) s).length) ∧ w' = W.alloc (.cells ((Lib.splitB nlS 0 (Lib.countB s nlS) s).map Value.string).toArray 9)) := by
    intro W hW
    rw [hml]
    exact Tryz.strings_Split s nlS m W (by omega) hW (by decide)
  have hll : (Lib.splitB nlS 0 (Lib.countB s nlS) s).length ≤ 65537 := by omega
  have hlz : ∀ x ∈ Lib.splitB nlS 0 (Lib.countB s nlS) s, x.size ≤ 65536 := fun x hx => Nat.le_trans (hmz x hx) (by omega)
  clear hml hmc hmz hm
  generalize Lib.splitB nlS 0 (Lib.countB s nlS) s = ls at Hsp hll hlz ⊢
  have Hll := Lib.hid hll
  have Hlz := Lib.hid hlz
  clear hll hlz hbig hs
  have hwl : w.heap.size < w.heap.size + 1 := by omega
  go_enter Tryz.func7, Tryz.ntmps7
  go_wp2_with fail
  refine (Hsp.out _ hmx).mono ?_
  rintro e w1 ⟨rfl, rfl⟩
  have hls : SliceAt strC 1 (w.alloc (.cells (ls.map Value.string).toArray 9)) (w.heap.size + 1) (some ⟨w.heap.size, 0, none⟩) ls := by
    refine .inr ⟨w.heap.size, 0, rfl, by omega, fun i x hx j u hu => ?_⟩
    have hj : j = 0 := by have := (List.getElem?_eq_some_iff.1 hu).1; simpa [strC] using this
    subst hj
    rw [World.cell?_alloc_new]
    have hu' : Value.string x = u := by simpa [strC] using hu
    simp [hx, hu']
  generalize hW1 : w.alloc (.cells (ls.map Value.string).toArray 9) = w1 at hls
  have hw1s : w1.heap.size = w.heap.size + 1 := by rw [← hW1]; simp
  have hbW1 : Below w.heap.size w w1 := by rw [← hW1]; exact (Below.refl _ _).alloc (Nat.le_refl _) _
  have hE1 := he.below hbW1 (Nat.le_refl _)
  clear hW1 hmx he
  go_wp2_with fail
  go_loopw [5, 17] (fun lv iv wr => ∃ (k : Nat) (acc : List Sc.D), k ≤ ls.length ∧ iv = .int .i64 k ∧ acc.length ≤ 4096 ∧ wr.ownsRow w1.heap.size 39 3 lv acc.length (acc.flatMap doC) ∧
      parseGo acc k (ls.drop k) = parseGo [] 0 ls ∧ Below w1.heap.size w1 wr) (fun _ iv _ => ls.length - (intOf iv).toNat)
  case atStart => exact ⟨0, [], Nat.zero_le _, rfl, Nat.zero_le _, World.ownsRow_nil _ _ _ _, rfl, Below.refl _ _⟩
  case round =>
    obtain ⟨k, acc, hk, rfl, hacc, hown, hgo, hb⟩ := hrel
    have hbs := hb.size
    obtain ⟨A', c', rfl, hs, hcap⟩ := sliceAt_of_own (enc := doC) (fun _ => rfl) hown
    by_cases hlt : k < ls.length
    · have hdr : ls.drop k = ls[k] :: ls.drop (k + 1) := List.drop_eq_getElem_cons hlt
      have hd0 : ls[k]? = some ls[k] := List.getElem?_eq_getElem hlt
      have hsz := Hlz.out _ (List.getElem_mem hlt)
      generalize ls[k] = s1 at hdr hd0 hsz
      obtain ⟨_, _, hAb, _, q⟩ := strC_at hls hd0
      injection hAb with hAb
      injection hAb with hAb1 hAb2 _
      subst hAb1
      subst hAb2
      rw [Nat.zero_add] at q
      have q' := (hb.cell (p := ⟨w.heap.size, k, none⟩) (by show w.heap.size < _; omega)).trans q
      rw [hdr, parseGo] at hgo
      have hL := line_calls s1 wr (hE1.below hb (Nat.le_refl _)) hsz
      have ht := lineW_times (wordsM s1)
      unfold LinePost at hL
      generalize lineW (wordsM s1) = z at hL ht hgo
      obtain ⟨d, n, er⟩ := z
      simp only at hL ht hgo
      have hkb : k ≤ 65537 := by have := Hll.out; omega
      by_cases he : er = 0
      · subst he
        by_cases hf : 4096 < (acc.length : Int) + n
        · rw [if_neg (by simp), if_pos hf] at hgo
          have Hgo := Lib.hid hgo
          clear hgo hdr hd0 q
          unfold doV at hL
          go_wp2_with fail
          refine hL.mono ?_
          rintro e w2 ⟨rfl, hb2⟩
          clear hL
          go_wp2_with fail
          refine bodyPost_ret (v := .tuple #[.slice none 0 0, .int .i64 (k + 1), .int .i64 11]) (by simp [results, Tryz.results7, go_sem]) rfl ⟨none, 0, by rw [← Hgo.out]; rfl, .inl (by rw [← Hgo.out]), .inl (by rw [← Hgo.out]), ?_⟩
          exact (hbW1.trans ((hb.trans (hb2.mono hbs)).mono (by omega))).alloc (by have := hb2.size; omega) _
        · rw [if_neg (by simp), if_neg hf] at hgo
          have Hgo := Lib.hid hgo
          clear hgo hdr hd0 q
          unfold doV at hL
          go_wp2_with fail
          refine hL.mono ?_
          rintro e w2 ⟨rfl, hb2⟩
          clear hL
          have hs2 := hb2.size
          have hown1 := hown.kept (grown_of_below hb2 none) (by
            generalize Value.ownBlock _ = ob
            cases ob with
            | none => exact .inl rfl
            | some k => exact .inr (by simp))
          have hblk : ∀ g, (Value.slice A' acc.length c').ownBlock = some g → g < wr.heap.size := fun g hg => (hown.lt g hg).2
          have hb3 := hb.trans (hb2.mono hbs)
          have Hblk := Lib.hid hblk
          clear hblk hb hb2 hs
          obtain ⟨B0, hB0⟩ : ∃ B0, B0 = w2.heap.size := ⟨_, rfl⟩
          have hne0 : (Value.slice A' acc.length c').ownBlock ≠ some B0 := fun h => by have := Hblk.out _ h; omega
          have Hne0 := Lib.hid hne0
          clear hne0
          go_wp2_with fail
          have hown2 := hown1.alloc (.cells #[.int .i64 d.x, .int .i64 d.a, .int .i64 d.b] 39)
          have hb4 := hb3.alloc (by omega) (.cells #[.int .i64 d.x, .int .i64 d.a, .int .i64 d.b] 39)
          have hx0 := World.cell?_alloc_new w2 #[.int .i64 d.x, .int .i64 d.a, .int .i64 d.b] 39 0
          have hx1 := World.cell?_alloc_new w2 #[.int .i64 d.x, .int .i64 d.a, .int .i64 d.b] 39 1
          have hx2 := World.cell?_alloc_new w2 #[.int .i64 d.x, .int .i64 d.a, .int .i64 d.b] 39 2
          have hxs : (w2.alloc (.cells #[.int .i64 d.x, .int .i64 d.a, .int .i64 d.b] 39)).heap.size = B0 + 1 := by rw [World.size_alloc, hB0]
          rw [← hB0] at hx0 hx1 hx2 ⊢
          generalize w2.alloc (.cells #[.int .i64 d.x, .int .i64 d.a, .int .i64 d.b] 39) = w3 at *
          have HB0 := Lib.hid hB0
          clear hB0
          go_loopw [5, 41] (fun lv jv wi => ∃ j : Nat, (j : Int) ≤ n ∧ jv = .int .i64 j ∧ wi.ownsRow w1.heap.size 39 3 lv (acc.length + j) ((acc ++ List.replicate j d).flatMap doC) ∧ Below w1.heap.size w1 wi ∧
              Hid (lv.ownBlock ≠ some B0) ∧ B0 < wi.heap.size ∧ wi.cell? ⟨B0, 0, none⟩ = some (.int .i64 d.x) ∧ wi.cell? ⟨B0, 1, none⟩ = some (.int .i64 d.a) ∧ wi.cell? ⟨B0, 2, none⟩ = some (.int .i64 d.b)) (fun _ jv _ => (n - intOf jv).toNat)
          case atStart => exact ⟨0, by omega, rfl, by simpa using hown2, hb4, Hne0, by omega, hx0, hx1, hx2⟩
          case round =>
            obtain ⟨j, hj, rfl, hownj, hbj, hnej, hbx, x0, x1, x2⟩ := hrel
            have hbjs := hbj.size
            have hjb : (j : Int) ≤ 4095 := by omega
            have Hltj := Lib.hid (fun g hg => (hownj.lt g hg))
            by_cases hjn : (j : Int) < n
            · go_wp2_with (at_builtin; go_loud (refine wpList_append_own_at _ rfl _ _ 31 rfl w1.heap.size 39 i0 _ 3 24 Tryz.underlying31 hi hz0 hz1 hz2 rfl (by decide) _ _ _ rfl (hownj.alloc _) ⟨wr.heap.size, 0, none⟩ 1 1 (doC d) rfl rfl ?c1 ?c2 ?c3 ?c4 ?c5 ?_))
              case c1 =>
                intro j u hj
                rw [addr_add0, Nat.zero_add, World.cell?_alloc_new]
                simpa [doC] using hj
              case c2 => simp [doC, Value.oneCell']
              case c3 => unfold maxLen; omega
              case c4 => omega
              case c5 => simp; omega
              rintro v' w5 hown5 hgrow _ hat
              have hg0 : ∀ i v, wr.cell? ⟨B0, i, none⟩ = some v → w5.cell? ⟨B0, i, none⟩ = some v := fun i v h =>
                hgrow.cell (by rw [World.cell?_alloc_lt _ _ _ hbx]; exact h) (fun e => hnej.out e.symm)
              go_wp2_with fail
              go_roundw
              case rel =>
                refine ⟨j + 1, by omega, by go_num, ?_, ?_, ?_, ?_, hg0 _ _ x0, hg0 _ _ x1, hg0 _ _ x2⟩
                · rw [List.replicate_succ', ← List.append_assoc, List.flatMap_append]
                  simpa [Nat.add_assoc, hw1s] using hown5
                · exact (hbj.alloc hbjs _).grown hgrow (by simp; omega) (fun g hg => (Hltj.out g hg).1)
                · intro e
                  rcases hat with h | h
                  · exact hnej.out (h.symm.trans e)
                  · rw [h] at e
                    injection e with e
                    omega
                · have := hgrow.size
                  rw [World.size_alloc] at this
                  omega
              case measure => simp [intOf]; omega
            · have hjn' : (j : Int) = n := by omega
              have hjt : n.toNat = j := by omega
              go_wp2_with fail
              go_roundw
              case rel =>
                refine ⟨k + 1, acc ++ List.replicate j d, by omega, by go_num, ?_, ?_, ?_, hbj⟩
                · simp; omega
                · simpa using hownj
                · rw [← Hgo.out, hjt]
              case measure => simp [intOf]; omega
      · rw [if_pos he] at hgo
        have Hgo := Lib.hid hgo
        clear hgo hdr hd0 q
        have heb : (er != 0) = true := by simp [he]
        unfold doV at hL
        go_wp2_with fail
        refine hL.mono ?_
        rintro e w2 ⟨rfl, hb2⟩
        clear hL
        go_wp2_with fail
        refine bodyPost_ret (v := .tuple #[.slice none 0 0, .int .i64 (k + 1), .int .i64 er]) (by simp [results, Tryz.results7, go_sem]) rfl ⟨none, 0, by rw [← Hgo.out]; rfl, .inl (by rw [← Hgo.out]), .inl (by rw [← Hgo.out]), ?_⟩
        exact (hbW1.trans ((hb.trans (hb2.mono hbs)).mono (by omega))).alloc (by have := hb2.size; omega) _
    · have hlt' : ¬ (k : Int) < ls.length := by omega
      have hkl : ls.length ≤ k := by omega
      rw [List.drop_of_length_le hkl, parseGo] at hgo
      have Hgo := Lib.hid hgo
      clear hgo
      go_wp2_with fail
      refine bodyPost_ret (v := .tuple #[.slice A' acc.length c', .int .i64 0, .int .i64 0]) (by simp [results, Tryz.results7, go_sem]) rfl ⟨A', c', by rw [← Hgo.out], by rw [← Hgo.out]; exact hs, by rw [← Hgo.out]; exact hcap, hbW1.trans (hb.mono (by omega))⟩
end Go.Proofs.YtbhmocfiifmmcaaGreatDoor
