/- The contract of script's line: what the words of a line tell. -/
import Derived.Test.YtbhmocfiifmmcaaGreatDoorScNums
import Derived.Deep.CutBlock
import Derived.Deep.DeepCutAuto
namespace Go.Proofs.YtbhmocfiifmmcaaGreatDoor
open Go.RowKit Go.Lib Go.Sort

def isWs (r : Nat) : Bool := r == 32 || r == 9 || r == 13
def wordsM (s : ByteArray) : List ByteArray := Lib.goFieldsP isWs ⟨(Lib.cut s.data.toList [35]).1.toArray⟩
def formW (k : Nat) : ByteArray := if k = 0 then ⟨#[115, 116, 101, 112]⟩ else if k = 1 then ⟨#[100, 101, 108, 105, 118, 101, 114]⟩ else if k = 2 then ⟨#[114, 111, 117, 110, 100]⟩ else ⟨#[99, 97, 110, 99, 101, 108]⟩
def formIx (w : ByteArray) : Nat := if formW 0 = w then 0 else if formW 1 = w then 1 else if formW 2 = w then 2 else if formW 3 = w then 3 else 4
def oneS : ByteArray := ⟨#[49]⟩
def timesM (t : List ByteArray) : ByteArray × List ByteArray :=
  match t.getLast? with
  | none => (oneS, t)
  | some s => if Lib.hasPrefix s.data.toList [120] = true then (s.extract 1 s.size, t.dropLast) else (oneS, t)
def hasX (t : List ByteArray) : Bool :=
  match t.getLast? with
  | none => false
  | some s => Lib.hasPrefix s.data.toList [120]
def numsN (k : Nat) : Nat := if k = 1 then 2 else if k = 2 then 0 else 1
def tellM (k : Nat) (n : Nat) (r : List Int × Int) : Sc.D × Int × Int :=
  if r.2 ≠ 0 then (⟨0, 0, 0⟩, 0, r.2)
  else if r.1[0]?.getD 0 = 0 then (⟨0, 0, 0⟩, 0, 10)
  else (⟨k, if 0 < n then r.1[1]?.getD 0 else 0, if 1 < n then r.1[2]?.getD 0 else 0⟩, r.1[0]?.getD 0, 0)
def lineW : List ByteArray → Sc.D × Int × Int
  | [] => (⟨0, 0, 0⟩, 0, 0)
  | w :: t => if formIx w = 4 ∨ (timesM t).2.length ≠ numsN (formIx w) then (⟨0, 0, 0⟩, 0, 15)
    else tellM (formIx w) (timesM t).2.length (numsGo [] 0 ((timesM t).1 :: (timesM t).2))
def LinePost (r : Sc.D × Int × Int) (w : World) (e : Ending) (w' : World) : Prop := e = .returned (.tuple #[doV r.1, .int .i64 r.2.1, .int .i64 r.2.2]) ∧ Below w.heap.size w w'

theorem isWs_at (W : World) : PredAtRunes Tryz.prog 19 #[] isWs W := by
  intro w x hx hb
  show Calls _ _ #[encR x] w _
  unfold isWs encR
  by_cases h1 : x = 32
  · subst h1
    go_enter Tryz.func19, Tryz.ntmps19
    go_wp2_with fail
    go_ret
    exact ⟨rfl, 0, rfl⟩
  by_cases h2 : x = 9
  · subst h2
    go_enter Tryz.func19, Tryz.ntmps19
    go_wp2_with fail
    go_ret
    exact ⟨rfl, 0, rfl⟩
  by_cases h3 : x = 13
  · subst h3
    go_enter Tryz.func19, Tryz.ntmps19
    go_wp2_with fail
    go_ret
    exact ⟨rfl, 0, rfl⟩
  · have e1 : ((x : Int) == 32) = false := by rw [beq_eq_false_iff_ne]; omega
    have e2 : ((x : Int) == 9) = false := by rw [beq_eq_false_iff_ne]; omega
    have e3 : ((x : Int) == 13) = false := by rw [beq_eq_false_iff_ne]; omega
    have g1 : (x == 32) = false := by rw [beq_eq_false_iff_ne]; exact h1
    have g2 : (x == 9) = false := by rw [beq_eq_false_iff_ne]; exact h2
    have g3 : (x == 13) = false := by rw [beq_eq_false_iff_ne]; exact h3
    rw [g1, g2, g3]
    clear g1 g2 g3 h1 h2 h3
    go_enter Tryz.func19, Tryz.ntmps19
    go_wp2_with fail
    go_ret
    exact ⟨rfl, 0, rfl⟩

theorem spans_len (p : Nat → Bool) (s : ByteArray) (f : Nat) : ∀ (pos : Nat) (st : Option Nat) (acc : List (Nat × Nat)), (Lib.spansFromP p s f pos st acc).1.length ≤ acc.length + f := by
  induction f with
  | zero => intro pos st acc; exact Nat.le_refl _
  | succ f ih =>
    intro pos st acc
    unfold Lib.spansFromP
    split
    · split <;> split
      · have := ih (pos + (Utf8.decode s pos).2) none (acc ++ [(‹Nat›, pos)])
        simp only [List.length_append, List.length_singleton] at this
        omega
      all_goals
        refine Nat.le_trans (ih _ _ _) ?_
        omega
    · exact Nat.le_add_right _ _
theorem fields_len (p : Nat → Bool) (s : ByteArray) : (Lib.goFieldsP p s).length ≤ s.size + 1 := by
  unfold Lib.goFieldsP Lib.spansOfP
  rw [List.length_map]
  have := spans_len p s s.size 0 none []
  generalize Lib.spansFromP p s s.size 0 none [] = r at this
  obtain ⟨acc, st⟩ := r
  cases st <;> simp [Lib.closeSpans] at this ⊢ <;> omega
theorem fields_size (p : Nat → Bool) (s x : ByteArray) (h : x ∈ Lib.goFieldsP p s) : x.size ≤ s.size := by
  obtain ⟨y, _, rfl⟩ := List.mem_map.1 h
  rw [ByteArray.size_extract]
  omega
theorem cut_len (s sep : List UInt8) : (Lib.cut s sep).1.length ≤ s.length := by
  unfold Lib.cut
  split
  · simp only [List.length_take]; omega
  · exact Nat.le_refl _
theorem formIx_at (x : ByteArray) (k : Nat) (hk : k < 4) (h : formW k = x) (hle : k ≤ formIx x) : formIx x = k := by
  unfold formIx at *
  subst h
  have : k = 0 ∨ k = 1 ∨ k = 2 ∨ k = 3 := by omega
  rcases this with rfl | rfl | rfl | rfl <;> decide +kernel
theorem formIx_next (x : ByteArray) (k : Nat) (hk : k < 4) (h : ¬ formW k = x) (hle : k ≤ formIx x) : k + 1 ≤ formIx x := by
  unfold formIx at *
  have : k = 0 ∨ k = 1 ∨ k = 2 ∨ k = 3 := by omega
  rcases this with rfl | rfl | rfl | rfl
  · rw [if_neg h]; split <;> (try split) <;> (try split) <;> omega
  · split at hle
    · omega
    · rw [if_neg (by assumption), if_neg h]; split <;> (try split) <;> omega
  · split at hle
    · omega
    split at hle
    · omega
    · rw [if_neg (by assumption), if_neg (by assumption), if_neg h]; split <;> omega
  · split at hle
    · omega
    split at hle
    · omega
    split at hle
    · omega
    · rw [if_neg (by assumption), if_neg (by assumption), if_neg (by assumption), if_neg h]; omega
theorem formIx_le (x : ByteArray) : formIx x ≤ 4 := by
  unfold formIx
  repeat (first | omega | split)
theorem cmp_eq (k : Nat) (x : ByteArray) : ((formW k).data.toList == x.toList) = decide (formW k = x) := by
  by_cases h : formW k = x
  · rw [decide_eq_true h, ← h, ByteArray.toList_eq]; simp
  · rw [decide_eq_false h, beq_eq_false_iff_ne, ByteArray.toList_eq]
    intro e
    apply h
    cases hx : x with
    | mk d => 
      rw [hx] at e
      cases hf : formW k with
      | mk d' => rw [hf] at e; exact congrArg _ (Array.toList_inj.1 e)
theorem timesM_no {t : List ByteArray} (h : hasX t = false) : timesM t = (oneS, t) := by
  unfold hasX at h
  unfold timesM
  cases hg : t.getLast? with
  | none => rfl
  | some y =>
    rw [hg] at h
    simp only [h]
    rfl
theorem timesM_yes {t : List ByteArray} (h : hasX t = true) : ∃ r y, t = r ++ [y] ∧ timesM t = (y.extract 1 y.size, t.dropLast) ∧ 1 ≤ y.size := by
  unfold hasX at h
  unfold timesM
  cases hg : t.getLast? with
  | none => rw [hg] at h; cases h
  | some y =>
    rw [hg] at h
    obtain ⟨r, hr⟩ : ∃ r, t = r ++ [y] := List.getLast?_eq_some_iff.1 hg
    refine ⟨r, y, hr, by simp only [h]; rfl, ?_⟩
    have := (List.isPrefixOf_iff_prefix.1 h).length_le
    simpa [Array.length_toList] using this
theorem timesM_told (t : List ByteArray) : (timesM t).2.length ≤ t.length ∧ ∀ (j : Nat) (d : ByteArray), (timesM t).2[j]? = some d → t[j]? = some d := by
  cases h : hasX t with
  | false => rw [timesM_no h]; exact ⟨Nat.le_refl _, fun _ _ h => h⟩
  | true =>
    obtain ⟨r, y, hr, e, _⟩ := timesM_yes h
    rw [e]
    subst hr
    simp only [List.dropLast_concat]
    refine ⟨by simp, fun j d hd => ?_⟩
    rw [List.getElem?_append_left (List.getElem?_eq_some_iff.1 hd).1]
    exact hd
theorem timesM_size (t : List ByteArray) (n : Nat) (hn : 1 ≤ n) (h : ∀ x ∈ t, x.size ≤ n) : (timesM t).1.size ≤ n := by
  cases hx : hasX t with
  | false => rw [timesM_no hx]; exact hn
  | true =>
    obtain ⟨r, y, hr, e, _⟩ := timesM_yes hx
    rw [e]
    have := h y (by rw [hr]; simp)
    simp only [ByteArray.size_extract]
    omega
theorem info_str : (Tryz.prog.info? 9).map (fun i => (i.zero, i.size, i.bytes)) = some (some (.string ⟨#[]⟩), 1, 16) := by kernel_rfl
theorem numsGo_len (l : List ByteArray) : ∀ (acc : List Int) (wr : Int), (numsGo acc wr l).2 = 0 → (numsGo acc wr l).1.length = acc.length + l.length := by
  induction l with
  | nil =>
    intro acc wr h
    unfold numsGo at h ⊢
    split
    · rename_i h1; rw [if_pos h1] at h; exact absurd h h1
    · rfl
  | cons a l ih =>
    intro acc wr h
    unfold numsGo at h ⊢
    split
    · rename_i h1; rw [if_pos h1] at h; cases h
    · rename_i h1; rw [if_neg h1] at h; rw [ih _ _ h]; simp; omega
theorem addr_addn (A o j : Nat) : (⟨A, o, none⟩ : Addr).add j = ⟨A, o + j, none⟩ := by
  unfold Addr.add
  split
  · rename_i h; subst h; rfl
  · rfl
theorem intC_at {w : World} {B : Nat} {A : Option Addr} {l : List Int} (h : SliceAt intC 1 w B A l) {k : Nat} {d : Int} (hd : l[k]? = some d) :
    ∃ b off, A = some ⟨b, off, none⟩ ∧ b < B ∧ w.cell? ⟨b, off + k, none⟩ = some (.int .i64 d) := by
  rcases h with rfl | ⟨b, off, rfl, hb, hc⟩
  · simp at hd
  · exact ⟨b, off, rfl, hb, by have := hc k d hd 0 _ rfl; simpa using this⟩
theorem flat_str (l : List ByteArray) : l.flatMap strC = l.map Value.string := by
  induction l with
  | nil => rfl
  | cons a l ih => rw [List.flatMap_cons, ih]; rfl

set_option maxRecDepth 100000 in
set_option maxHeartbeats 4000000 in
theorem line_calls (s : ByteArray) (w : World) (he : Env w) (hs : s.size ≤ 65536) :
    Calls Tryz.prog 13 #[.string s] w (LinePost (lineW (wordsM s)) w) := by
  have hm := he.maxLen
  obtain ⟨m, hm⟩ := hm
  have hml : 1 < w.heap.size := World.block_lt_of_cell? _ _ hm
  unfold wordsM
  have hcl : (Lib.cut s.data.toList [35]).1.length ≤ s.size := cut_len _ _
  generalize hcut : Lib.cut s.data.toList [35] = cu at hcl
  obtain ⟨c1, c2, c3⟩ := cu
  have hc65 : (⟨c1.toArray⟩ : ByteArray).size ≤ 65536 := Nat.le_trans hcl hs
  have hfl := fields_len isWs ⟨c1.toArray⟩
  have hfs := fields_size isWs ⟨c1.toArray⟩
  generalize hgf : Lib.goFieldsP isWs ⟨c1.toArray⟩ = ws at hfl hfs ⊢
  have Hgf := Lib.hid hgf
  clear hgf
  go_enter Tryz.func13, Tryz.ntmps13
  go_wp2_with fail
  refine (Tryz.strings_Cut s ⟨#[35]⟩ m _ (by omega) ?_).mono ?_
  · rw [World.cell?_alloc_lt _ _ _ hml]
    exact hm
  rintro e w1 ⟨rfl, n1, rfl⟩
  rw [show ({ data := #[35] } : ByteArray).data.toList = [35] from rfl, hcut]
  go_wp2_with fail
  refine (Tryz.strings_FieldsFunc_runes _ #[] (fun _ _ => rfl) isWs _ _ (by omega) (isWs_at _)).mono ?_
  rintro e w2 ⟨A, rfl, hA, hown, hb2⟩
  rw [Hgf.out, ← flat_str] at hown
  rw [Hgf.out]
  obtain ⟨A', cc, hAe, hws, _⟩ := sliceAt_of_own (enc := strC) (fun _ => rfl) hown
  injection hAe with hA1 _ hA3
  subst hA1
  clear hA3
  have hb2' : Below (w.heap.size + 1) (w.alloc (Obj.cells #[Value.int IntKind.i64 0, Value.int IntKind.i64 0, Value.int IntKind.i64 0] 39)) w2 := by
    have := Below.trans (B := w.heap.size + 1) (b := (w.alloc (Obj.cells #[Value.int IntKind.i64 0, Value.int IntKind.i64 0, Value.int IntKind.i64 0] 39)).drewN n1) (a := w.alloc (Obj.cells #[Value.int IntKind.i64 0, Value.int IntKind.i64 0, Value.int IntKind.i64 0] 39)) ⟨rfl, rfl, rfl, Nat.le_refl _, fun _ _ => rfl⟩ (hb2.mono (Nat.le_of_eq (World.size_alloc _ _).symm))
    exact this
  have hsz2 := hb2'.size
  rw [World.size_alloc] at hsz2
  have hbW : Below w.heap.size w w2 := ((Below.refl _ _).alloc (Nat.le_refl _) _).trans (hb2'.mono (by omega))
  have hE2 := he.below hbW (Nat.le_refl _)
  obtain ⟨hc2, hf2⟩ := bcell hb2'
  have k0 := (hc2 w.heap.size 0 (by omega)).trans (World.cell?_alloc_new _ _ _ _)
  have k1 := (hc2 w.heap.size 1 (by omega)).trans (World.cell?_alloc_new _ _ _ _)
  have k2 := (hc2 w.heap.size 2 (by omega)).trans (World.cell?_alloc_new _ _ _ _)
  clear hb2 hown he hcut hm hml Hgf hcl hA
  cases ws with
  | nil =>
    go_wp2_with fail
    refine bodyPost_ret (v := .tuple #[.agg #[.int .i64 0, .int .i64 0, .int .i64 0], .int .i64 0, .int .i64 0]) (by simp [results, Tryz.results13, go_sem, k0, k1, k2]) rfl ⟨rfl, ?_⟩
    repeat (first | exact hbW | refine Below.setCell ?_ (by simp) _ | refine Below.alloc ?_ (by simp) _)
  | cons x t =>
    have hxz : x.size ≤ 1000000 := by
      have := hfs x (List.mem_cons_self ..)
      have h2 : (⟨c1.toArray⟩ : ByteArray).size ≤ 65536 := hc65
      omega
    obtain ⟨_, _, hAb, hAlt, hx0⟩ := strC_at hws (k := 0) (d := x) rfl
    injection hAb with hAb
    injection hAb with hAb1 hAb2 _
    subst hAb1
    subst hAb2
    rw [Nat.zero_add] at hx0
    go_upto_block 0 with fail
    go_cut [6] (fun iv wx => iv = .int .i64 (formIx x : Nat) ∧ Below w2.heap.size w2 wx)
    case first =>
      go_wp2_with fail
      go_loopw [6] (fun iv wr => ∃ k : Nat, k ≤ 4 ∧ iv = .int .i64 k ∧ k ≤ formIx x ∧ Below w2.heap.size w2 wr) (fun iv _ => 4 - (intOf iv).toNat)
      case atStart => exact ⟨0, by omega, rfl, Nat.zero_le _, Below.refl _ _⟩
      case round =>
        obtain ⟨k, hk4, rfl, hle, hbr⟩ := hrel
        have hE3 := hE2.below hbr (Nat.le_refl _)
        have x0 := (hbr.cell (p := ⟨A, 0, none⟩) hAlt).trans hx0
        have hsr := hbr.size
        obtain ⟨f0, f1, f2, f3, f4, f5, f6, f7⟩ := hE3.forms
        clear f1 f3 f5 f7
        have gx := fun dr os => cell_regrown x0 dr os
        have g0 := fun dr os => cell_regrown f0 dr os
        have g2 := fun dr os => cell_regrown f2 dr os
        have g4 := fun dr os => cell_regrown f4 dr os
        have g6 := fun dr os => cell_regrown f6 dr os
        by_cases hk : k = 4
        · subst hk
          have hix := formIx_le x
          go_wp2_with fail
          refine wp_region_quiet_below (by kernel_rfl) (by kernel_rfl) ?_
          repeat (go_big_quiet_step (fail))
          refine wpQuiet_nil ?_
          intro _ hw'
          obtain ⟨⟨dq, osq⟩, hw''⟩ := hw'
          subst hw''
          have hbq := below_regrown wr dq osq
          generalize grow (redrawn wr dq) osq = wq at hbq ⊢
          go_wp2_with fail
          go_meet
          exact ⟨by rw [show formIx x = 4 by omega], hbr.trans (hbq.mono hsr)⟩
        · have hk3 : k < 4 := by omega
          have hc := cmp_eq k x
          by_cases hf : formW k = x
          · have hix := formIx_at x k hk3 hf hle
            rw [decide_eq_true hf] at hc
            have Hix := Lib.hid hix
            have Hf := Lib.hid hf
            clear hix hf hle
            have hkk : k = 0 ∨ k = 1 ∨ k = 2 ∨ k = 3 := by omega
            rcases hkk with rfl | rfl | rfl | rfl
            · replace hc : ([115, 116, 101, 112] == x.toList) = true := hc
              go_wp2_with fail
              refine wp_region_quiet_below (by kernel_rfl) (by kernel_rfl) ?_
              repeat (go_big_quiet_step (fail))
              refine wpQuiet_nil ?_
              intro _ hw'
              obtain ⟨⟨dq, osq⟩, hw''⟩ := hw'
              subst hw''
              have hbq := below_regrown wr dq osq
              generalize grow (redrawn wr dq) osq = wq at hbq ⊢
              go_wp2_with fail
              go_meet
              exact ⟨by rw [Hix.out], hbr.trans (hbq.mono hsr)⟩
            · replace hc : ([100, 101, 108, 105, 118, 101, 114] == x.toList) = true := hc
              go_wp2_with fail
              refine wp_region_quiet_below (by kernel_rfl) (by kernel_rfl) ?_
              repeat (go_big_quiet_step (fail))
              refine wpQuiet_nil ?_
              intro _ hw'
              obtain ⟨⟨dq, osq⟩, hw''⟩ := hw'
              subst hw''
              have hbq := below_regrown wr dq osq
              generalize grow (redrawn wr dq) osq = wq at hbq ⊢
              go_wp2_with fail
              go_meet
              exact ⟨by rw [Hix.out], hbr.trans (hbq.mono hsr)⟩
            · replace hc : ([114, 111, 117, 110, 100] == x.toList) = true := hc
              go_wp2_with fail
              refine wp_region_quiet_below (by kernel_rfl) (by kernel_rfl) ?_
              repeat (go_big_quiet_step (fail))
              refine wpQuiet_nil ?_
              intro _ hw'
              obtain ⟨⟨dq, osq⟩, hw''⟩ := hw'
              subst hw''
              have hbq := below_regrown wr dq osq
              generalize grow (redrawn wr dq) osq = wq at hbq ⊢
              go_wp2_with fail
              go_meet
              exact ⟨by rw [Hix.out], hbr.trans (hbq.mono hsr)⟩
            · replace hc : ([99, 97, 110, 99, 101, 108] == x.toList) = true := hc
              go_wp2_with fail
              refine wp_region_quiet_below (by kernel_rfl) (by kernel_rfl) ?_
              repeat (go_big_quiet_step (fail))
              refine wpQuiet_nil ?_
              intro _ hw'
              obtain ⟨⟨dq, osq⟩, hw''⟩ := hw'
              subst hw''
              have hbq := below_regrown wr dq osq
              generalize grow (redrawn wr dq) osq = wq at hbq ⊢
              go_wp2_with fail
              go_meet
              exact ⟨by rw [Hix.out], hbr.trans (hbq.mono hsr)⟩
          · have hix := formIx_next x k hk3 hf hle
            rw [decide_eq_false hf] at hc
            have Hix := Lib.hid hix
            have Hf := Lib.hid hf
            clear hix hf hle
            have hkk : k = 0 ∨ k = 1 ∨ k = 2 ∨ k = 3 := by omega
            rcases hkk with rfl | rfl | rfl | rfl
            · replace hc : ([115, 116, 101, 112] == x.toList) = false := hc
              go_wp2_with fail
              refine wp_region_quiet_below (by kernel_rfl) (by kernel_rfl) ?_
              repeat (go_big_quiet_step (fail))
              refine wpQuiet_nil ?_
              intro _ hw'
              obtain ⟨⟨dq, osq⟩, hw''⟩ := hw'
              subst hw''
              have hbq := below_regrown wr dq osq
              generalize grow (redrawn wr dq) osq = wq at hbq ⊢
              go_wp2_with fail
              go_roundw
              case rel => exact ⟨1, by omega, rfl, Hix.out, hbr.trans (hbq.mono hsr)⟩
              case measure => simp [intOf]
            · replace hc : ([100, 101, 108, 105, 118, 101, 114] == x.toList) = false := hc
              go_wp2_with fail
              refine wp_region_quiet_below (by kernel_rfl) (by kernel_rfl) ?_
              repeat (go_big_quiet_step (fail))
              refine wpQuiet_nil ?_
              intro _ hw'
              obtain ⟨⟨dq, osq⟩, hw''⟩ := hw'
              subst hw''
              have hbq := below_regrown wr dq osq
              generalize grow (redrawn wr dq) osq = wq at hbq ⊢
              go_wp2_with fail
              go_roundw
              case rel => exact ⟨2, by omega, rfl, Hix.out, hbr.trans (hbq.mono hsr)⟩
              case measure => simp [intOf]
            · replace hc : ([114, 111, 117, 110, 100] == x.toList) = false := hc
              go_wp2_with fail
              refine wp_region_quiet_below (by kernel_rfl) (by kernel_rfl) ?_
              repeat (go_big_quiet_step (fail))
              refine wpQuiet_nil ?_
              intro _ hw'
              obtain ⟨⟨dq, osq⟩, hw''⟩ := hw'
              subst hw''
              have hbq := below_regrown wr dq osq
              generalize grow (redrawn wr dq) osq = wq at hbq ⊢
              go_wp2_with fail
              go_roundw
              case rel => exact ⟨3, by omega, rfl, Hix.out, hbr.trans (hbq.mono hsr)⟩
              case measure => simp [intOf]
            · replace hc : ([99, 97, 110, 99, 101, 108] == x.toList) = false := hc
              go_wp2_with fail
              refine wp_region_quiet_below (by kernel_rfl) (by kernel_rfl) ?_
              repeat (go_big_quiet_step (fail))
              refine wpQuiet_nil ?_
              intro _ hw'
              obtain ⟨⟨dq, osq⟩, hw''⟩ := hw'
              subst hw''
              have hbq := below_regrown wr dq osq
              generalize grow (redrawn wr dq) osq = wq at hbq ⊢
              go_wp2_with fail
              go_roundw
              case rel => exact ⟨4, by omega, rfl, Hix.out, hbr.trans (hbq.mono hsr)⟩
              case measure => simp [intOf]
    case rest =>
      obtain ⟨rfl, hbc⟩ := hcut
      have hkle := formIx_le x
      have hE3 := hE2.below hbc (Nat.le_refl _)
      have hsc := hbc.size
      generalize hkx : formIx x = k at hkle ⊢
      have Hkx := Lib.hid hkx
      clear hkx
      have htn : t.length ≤ 65536 := by
        have h2 : (⟨c1.toArray⟩ : ByteArray).size ≤ 65536 := hc65
        simp only [List.length_cons] at hfl
        omega
      have Htn := Lib.hid htn
      have hts : ∀ y ∈ t, y.size ≤ 65536 := fun y hy => Nat.le_trans (hfs y (List.mem_cons_of_mem _ hy)) hc65
      have Hts := Lib.hid hts
      clear htn hfl hfs hc65 hts
      go_upto_region 8 with fail
      go_cut [7] (fun tv wx => ∃ o : Nat, tv = .slice (some ⟨A, o, none⟩) t.length t.length ∧ (t = [] ∨ o = 1) ∧ wx = wc)
      case first =>
        by_cases ht : t = []
        · subst ht
          go_wp2_with fail
          go_meet
          exact ⟨_, rfl, .inl trivial, rfl⟩
        · go_wp2_with fail
          go_meet
          exact ⟨_, rfl, .inr rfl, rfl⟩
      case rest =>
      obtain ⟨o, rfl, ho, rfl⟩ := hcut
      have Ho := Lib.hid ho
      clear ho
      go_upto_region 11 with fail
      go_cut [52] (fun cv wx => cv = .bool (hasX t) ∧ wx = wc)
      case first =>
        cases hgl : t.getLast? with
        | none =>
          have ht : t = [] := List.getLast?_eq_none_iff.1 hgl
          subst ht
          clear hgl
          go_wp2_with fail
          go_meet
          exact ⟨rfl, rfl⟩
        | some y =>
          obtain ⟨r, ht⟩ : ∃ r, t = r ++ [y] := List.getLast?_eq_some_iff.1 hgl
          have hx : hasX t = Lib.hasPrefix y.data.toList [120] := by unfold hasX; rw [hgl]
          have hy : (x :: t)[r.length + 1]? = some y := by rw [ht]; simp
          obtain ⟨_, _, hAb, _, hy0⟩ := strC_at hws hy
          injection hAb with hAb
          injection hAb with hAb1 hAb2 _
          subst hAb1
          subst hAb2
          have hyc := (hbc.cell (p := ⟨A, 0 + (r.length + 1), none⟩) hAlt).trans hy0
          have htl : t.length = r.length + 1 := by rw [ht]; simp
          have ho1 : o = 1 := by
            rcases Ho.out with h | h
            · rw [h] at htl; simp at htl
            · exact h
          subst ho1
          have hnb : r.length ≤ 65536 := by have := Htn.out; omega
          have Hx := Lib.hid hx
          have Ht := Lib.hid ht
          rw [show 0 + (r.length + 1) = 1 + (t.length - 1) by omega] at hyc
          have hb1 : t.length ≤ 65536 := Htn.out
          have hb2 : (1 : Int) ≤ t.length := by omega
          clear hx ht hy hy0 htl hgl hnb
          go_wp2_with fail
          refine (Tryz.strings_HasPrefix y ⟨#[120]⟩ _).mono ?_
          rintro e w4 ⟨rfl, rfl⟩
          go_wp2_with fail
          go_meet
          exact ⟨congrArg Value.bool Hx.out.symm, rfl⟩
      case rest =>
      obtain ⟨rfl, rfl⟩ := hcut
      go_upto_if 52 with fail
      go_cut [7, 8] (fun tv sv wx => (∃ c, tv = .slice (some ⟨A, o, none⟩) (timesM t).2.length c) ∧ sv = .string (timesM t).1 ∧ Below wc.heap.size wc wx)
      case first =>
        cases hX : hasX t with
        | false =>
          have hT : timesM t = (oneS, t) := timesM_no hX
          have HT := Lib.hid hT
          clear hT hX
          go_wp2_with fail
          go_meet
          exact ⟨⟨_, by rw [HT.out]⟩, by rw [HT.out]; rfl, Below.refl _ _⟩
        | true =>
          obtain ⟨r, y, ht, hT, hy1⟩ := timesM_yes hX
          have hy : (x :: t)[r.length + 1]? = some y := by rw [ht]; simp
          obtain ⟨_, _, hAb, _, hy0⟩ := strC_at hws hy
          injection hAb with hAb
          injection hAb with hAb1 hAb2 _
          subst hAb1
          subst hAb2
          have hyc := (hbc.cell (p := ⟨A, 0 + (r.length + 1), none⟩) hAlt).trans hy0
          have htl : t.length = r.length + 1 := by rw [ht]; simp
          have ho1 : o = 1 := by
            rcases Ho.out with h | h
            · rw [h] at htl; simp at htl
            · exact h
          subst ho1
          rw [show 0 + (r.length + 1) = 1 + (t.length - 1) by omega] at hyc
          have hb1 : t.length ≤ 65536 := Htn.out
          have hb2 : (1 : Int) ≤ t.length := by omega
          have HT := Lib.hid hT
          clear hT ht hy hy0 htl hX
          have gy := fun dr os => cell_regrown hyc dr os
          go_wp2_with fail
          refine wp_region_quiet_below (by kernel_rfl) (by kernel_rfl) ?_
          repeat (go_big_quiet_step (fail))
          refine wpQuiet_nil ?_
          intro _ hw'
          obtain ⟨⟨dq, osq⟩, hw''⟩ := hw'
          subst hw''
          have hbq := below_regrown wc dq osq
          generalize grow (redrawn wc dq) osq = wq at hbq ⊢
          go_wp2_with fail
          go_meet
          exact ⟨⟨_, by rw [HT.out, List.length_dropLast]⟩, by rw [HT.out], hbq⟩
      case rest =>
      obtain ⟨⟨c, rfl⟩, rfl, hbd⟩ := hcut
      have hbd2 := hbc.trans (hbd.mono hsc)
      have hE4 := hE2.below hbd2 (Nat.le_refl _)
      have hsd := hbd2.size
      have hpre := (timesM_told t).2
      have hpl := (timesM_told t).1
      have htsz := timesM_size t 65536 (by omega) Hts.out
      have hl : lineW (x :: t) = if k = 4 ∨ (timesM t).2.length ≠ numsN k then (⟨0, 0, 0⟩, 0, 15) else tellM k (timesM t).2.length (numsGo [] 0 ((timesM t).1 :: (timesM t).2)) := by
        rw [lineW, Hkx.out]
      generalize htm : timesM t = tm at hpre hpl htsz hl ⊢
      have hb5 := hb2'.trans (hbd2.mono hsz2)
      have hbW5 := hbW.trans (hbd2.mono (by omega))
      obtain ⟨hc5, hf5⟩ := bcell hb5
      clear k0 k1 k2 hc2 hf2 htm Hkx
      have k0 := (hc5 w.heap.size 0 (by omega)).trans (World.cell?_alloc_new _ _ _ _)
      have k1 := (hc5 w.heap.size 1 (by omega)).trans (World.cell?_alloc_new _ _ _ _)
      have k2 := (hc5 w.heap.size 2 (by omega)).trans (World.cell?_alloc_new _ _ _ _)
      have z0 : ∀ i, wc.frozen? ⟨w.heap.size, i, none⟩ = false := fun i => (hf5 w.heap.size i (by omega)).trans (by simp)
      clear hc5 hf5
      have Hl := Lib.hid hl
      have Hpre := Lib.hid hpre
      clear hl hpre
      have hs5 := hb5.size
      rw [World.size_alloc] at hs5
      go_upto_region 13 with fail
      go_cut [73] (fun cv wx => cv = .bool (decide (k = 4 ∨ tm.2.length ≠ numsN k)) ∧ wx = wc)
      case first =>
        obtain ⟨f0, f1, f2, f3, f4, f5, f6, f7⟩ := hE4.forms
        have hkk : k = 0 ∨ k = 1 ∨ k = 2 ∨ k = 3 ∨ k = 4 := by omega
        rcases hkk with rfl | rfl | rfl | rfl | rfl
        · by_cases hn : tm.2.length = 1
          · have hd : decide ((0 : Nat) = 4 ∨ tm.2.length ≠ numsN 0) = false := by rw [decide_eq_false_iff_not]; simp [numsN, hn]
            have hn1 : ((tm.2.length : Int) != 1) = false := by simp [hn]
            have Hd := Lib.hid hd
            clear hn hd
            go_wp2_with fail
            go_meet
            exact ⟨congrArg Value.bool Hd.out.symm, rfl⟩
          · have hd : decide ((0 : Nat) = 4 ∨ tm.2.length ≠ numsN 0) = true := by rw [decide_eq_true_iff]; simp [numsN, hn]
            have hn1 : ((tm.2.length : Int) != 1) = true := by rw [bne_iff_ne]; omega
            have Hd := Lib.hid hd
            clear hn hd
            go_wp2_with fail
            go_meet
            exact ⟨congrArg Value.bool Hd.out.symm, rfl⟩
        · by_cases hn : tm.2.length = 2
          · have hd : decide ((1 : Nat) = 4 ∨ tm.2.length ≠ numsN 1) = false := by rw [decide_eq_false_iff_not]; simp [numsN, hn]
            have hn1 : ((tm.2.length : Int) != 2) = false := by simp [hn]
            have Hd := Lib.hid hd
            clear hn hd
            go_wp2_with fail
            go_meet
            exact ⟨congrArg Value.bool Hd.out.symm, rfl⟩
          · have hd : decide ((1 : Nat) = 4 ∨ tm.2.length ≠ numsN 1) = true := by rw [decide_eq_true_iff]; simp [numsN, hn]
            have hn1 : ((tm.2.length : Int) != 2) = true := by rw [bne_iff_ne]; omega
            have Hd := Lib.hid hd
            clear hn hd
            go_wp2_with fail
            go_meet
            exact ⟨congrArg Value.bool Hd.out.symm, rfl⟩
        · by_cases hn : tm.2.length = 0
          · have hd : decide ((2 : Nat) = 4 ∨ tm.2.length ≠ numsN 2) = false := by rw [decide_eq_false_iff_not]; simp [numsN, hn]
            have hn1 : ((tm.2.length : Int) != 0) = false := by simp [hn]
            have Hd := Lib.hid hd
            clear hn hd
            go_wp2_with fail
            go_meet
            exact ⟨congrArg Value.bool Hd.out.symm, rfl⟩
          · have hd : decide ((2 : Nat) = 4 ∨ tm.2.length ≠ numsN 2) = true := by rw [decide_eq_true_iff]; simp [numsN, hn]
            have hn1 : ((tm.2.length : Int) != 0) = true := by rw [bne_iff_ne]; omega
            have Hd := Lib.hid hd
            clear hn hd
            go_wp2_with fail
            go_meet
            exact ⟨congrArg Value.bool Hd.out.symm, rfl⟩
        · by_cases hn : tm.2.length = 1
          · have hd : decide ((3 : Nat) = 4 ∨ tm.2.length ≠ numsN 3) = false := by rw [decide_eq_false_iff_not]; simp [numsN, hn]
            have hn1 : ((tm.2.length : Int) != 1) = false := by simp [hn]
            have Hd := Lib.hid hd
            clear hn hd
            go_wp2_with fail
            go_meet
            exact ⟨congrArg Value.bool Hd.out.symm, rfl⟩
          · have hd : decide ((3 : Nat) = 4 ∨ tm.2.length ≠ numsN 3) = true := by rw [decide_eq_true_iff]; simp [numsN, hn]
            have hn1 : ((tm.2.length : Int) != 1) = true := by rw [bne_iff_ne]; omega
            have Hd := Lib.hid hd
            clear hn hd
            go_wp2_with fail
            go_meet
            exact ⟨congrArg Value.bool Hd.out.symm, rfl⟩
        · have hd : decide ((4 : Nat) = 4 ∨ tm.2.length ≠ numsN 4) = true := by rw [decide_eq_true_iff]; exact .inl rfl
          have Hd := Lib.hid hd
          clear hd
          go_wp2_with fail
          go_meet
          exact ⟨congrArg Value.bool Hd.out.symm, rfl⟩
      case rest =>
      obtain ⟨rfl, rfl⟩ := hcut
      by_cases hbad : k = 4 ∨ tm.2.length ≠ numsN k
      · rw [decide_eq_true hbad]
        have hl : lineW (x :: t) = (⟨0, 0, 0⟩, 0, 15) := by rw [Hl.out, if_pos hbad]
        clear Hl
        have Hl := Lib.hid hl
        clear hl hbad
        go_wp2_with fail
        refine bodyPost_ret (v := .tuple #[.agg #[.int .i64 0, .int .i64 0, .int .i64 0], .int .i64 0, .int .i64 15]) (by simp [results, Tryz.results13, go_sem, k0, k1, k2]) rfl ⟨by rw [Hl.out]; rfl, ?_⟩
        repeat (first | exact hbW5 | refine Below.setCell ?_ (by simp) _ | refine Below.alloc ?_ (by simp) _)
      · rw [decide_eq_false hbad]
        rw [not_or] at hbad
        obtain ⟨hk4, hn⟩ := hbad
        rw [Decidable.not_not] at hn
        have hl : lineW (x :: t) = tellM k (numsN k) (numsGo [] 0 (tm.1 :: tm.2)) := by
          rw [Hl.out, if_neg (by rw [not_or]; exact ⟨hk4, fun h => h hn⟩), hn]
        clear Hl
        have Hl := Lib.hid hl
        clear hl
        obtain ⟨i0, hi, hz0, hz1, hz2⟩ := info_parts info_str
        have hnews : ∀ (j : Nat) (u : Value), (tm.2.flatMap strC)[j]? = some u → (wc.alloc (.cells #[.string tm.1] 9)).cell? ((⟨A, o, none⟩ : Addr).add j) = some u := fun j u hj => by
          rw [flat_str, List.getElem?_map] at hj
          cases hd : tm.2[j]? with
          | none => rw [hd] at hj; cases hj
          | some d =>
            rw [hd] at hj
            injection hj with hj
            subst hj
            have h1 := Hpre.out j d hd
            have h2 : (x :: t)[j + 1]? = some d := by simpa using h1
            obtain ⟨_, _, hAb, _, hy0⟩ := strC_at hws h2
            injection hAb with hAb
            injection hAb with hAb1 hAb2 _
            subst hAb1
            subst hAb2
            have hyc := (hbd2.cell (p := ⟨A, 0 + (j + 1), none⟩) hAlt).trans hy0
            have ho1 : o = 1 := by
              rcases Ho.out with h | h
              · rw [h] at h1; cases h1
              · exact h
            subst ho1
            rw [addr_addn]
            rw [World.cell?_alloc_lt _ _ _ (by show A < wc.heap.size; omega), show 1 + j = 0 + (j + 1) by omega]
            exact hyc
        have own1 : (wc.alloc (.cells #[.string tm.1] 9)).ownsRow wc.heap.size 9 1 (.slice (some ⟨wc.heap.size, 0, none⟩) 1 1) 1 [.string tm.1] :=
          World.ownsRow_lit _ #[.string tm.1] 1 (Nat.le_refl _) (by decide) rfl
        have hn2 : tm.2.length ≤ 2 := by rw [hn]; unfold numsN; split <;> (try split) <;> omega
        have Hnews := Lib.hid hnews
        have Hn := Lib.hid hn
        clear hn
        have Own1 := Lib.hid own1
        clear hnews own1
        go_wp2_with (at_builtin; go_loud (refine wpList_append_own _ rfl _ _ 43 rfl wc.heap.size 9 i0 _ 1 16 Tryz.underlying43 hi hz0 hz1 hz2 rfl (by decide) _ _ _ rfl Own1.out ⟨A, o, none⟩ tm.2.length c (tm.2.flatMap strC) rfl ?c0 Hnews.out ?c2 ?c3 ?c4 ?c5 ?_))
        case c0 => rw [flat_str]; simp
        case c2 => rw [flat_str]; intro u hu; obtain ⟨d, _, rfl⟩ := List.mem_map.1 hu; rfl
        case c3 => unfold maxLen; omega
        case c4 => omega
        case c5 => simp
        rintro v' w3 hown3 hgrow _
        have hb3 : Below wc.heap.size wc w3 := (((Below.refl _ _).alloc (Nat.le_refl _) _).grown hgrow (by simp) (fun g hg => (Own1.out.lt g hg).1))
        have hown3' : w3.ownsRow wc.heap.size 9 1 v' (tm.1 :: tm.2).length ((tm.1 :: tm.2).flatMap strC) := by
          rw [List.length_cons, Nat.add_comm, List.flatMap_cons]
          exact hown3
        clear hown3
        obtain ⟨A3, c3', rfl, hsl3, _⟩ := sliceAt_of_own (enc := strC) (fun _ => rfl) hown3'
        have hE5 := hE4.below hb3 (Nat.le_refl _)
        have hs3 := hb3.size
        have hN := numbers_calls A3 c3' (tm.1 :: tm.2) w3 hE5 hsl3 (by simp; omega) (by
          intro s hs
          rcases List.mem_cons.1 hs with rfl | h
          · omega
          · obtain ⟨j, hj, rfl⟩ := List.mem_iff_getElem.1 h
            have := Hts.out _ (List.mem_of_getElem? (Hpre.out j _ (List.getElem?_eq_getElem hj)))
            omega)
        rw [List.length_cons] at hN
        have hrl := numsGo_len (tm.1 :: tm.2) [] 0
        generalize numsGo [] 0 (tm.1 :: tm.2) = r at hN hrl Hl
        go_wp2_with fail
        refine hN.mono ?_
        rintro e w4 ⟨v4, rfl, hown4, hb4⟩
        have hb6 := hb3.trans (hb4.mono hs3)
        have hs6 := hb6.size
        have hbW6 := hbW5.trans (hb6.mono (by omega))
        obtain ⟨hc6, hf6⟩ := bcell hb6
        replace k0 := (hc6 w.heap.size 0 (by omega)).trans k0
        replace k1 := (hc6 w.heap.size 1 (by omega)).trans k1
        replace k2 := (hc6 w.heap.size 2 (by omega)).trans k2
        have z6 : ∀ i, w4.frozen? ⟨w.heap.size, i, none⟩ = false := fun i => (hf6 w.heap.size i (by omega)).trans (z0 i)
        have hs46 : w.heap.size < w4.heap.size := by omega
        have hs36 : w.heap.size < w3.heap.size := by omega
        have Hlt := Lib.hid (fun g hg => (hown4.lt g hg).1)
        obtain ⟨rl, re⟩ := r
        clear hc6 hf6 z0 hN hb4 hb3 hb6 hs6 hs3 hE5 hE4 hE3 hE2 hbW5 hbW hb5 hsl3 hown3' hgrow Own1 Hnews hbd hbd2
        simp only at hown4 hrl ⊢
        by_cases hre : re = 0
        · subst hre
          have hrl' := hrl rfl
          clear hrl
          have Hn' := Hn.out
          obtain ⟨A4, c4, rfl, hsl4, _⟩ := sliceAt_of_own (enc := intC) (fun _ => rfl) hown4
          clear hown4
          simp only [List.length_nil, List.length_cons, Nat.zero_add] at hrl'
          cases rl with
          | nil => simp at hrl'
          | cons a rr =>
          have hrr : rr.length = tm.2.length := by simpa using hrl'
          obtain ⟨b4, o4, rfl, hb4lt, ha⟩ := intC_at hsl4 (k := 0) (d := a) rfl
          rw [Nat.add_zero] at ha
          have hge := Hlt.out b4 rfl
          have hne1 : ¬ b4 = w.heap.size := by omega
          have hne2 : ¬ w.heap.size = b4 := by omega
          clear hge hs36
          by_cases ha0 : a = 0
          · have hl : lineW (x :: t) = (⟨0, 0, 0⟩, 0, 10) := by rw [Hl.out]; simp [tellM, ha0]
            clear Hl
            have Hl := Lib.hid hl
            clear hl
            subst ha0
            go_wp2_with fail
            refine bodyPost_ret (v := .tuple #[.agg #[.int .i64 0, .int .i64 0, .int .i64 0], .int .i64 0, .int .i64 10]) (by simp [results, Tryz.results13, go_sem, k0, k1, k2]) rfl ⟨by rw [Hl.out]; rfl, ?_⟩
            repeat (first | exact hbW6 | refine Below.setCell ?_ (by simp) _ | refine Below.alloc ?_ (by simp) _)
          · have hab : (a == 0) = false := by simp [ha0]
            rcases rr with _ | ⟨b, _ | ⟨d, _ | ⟨q, rr⟩⟩⟩
            · have htz : tm.2.length = 0 := hrr.symm
              have hl : lineW (x :: t) = (⟨k, 0, 0⟩, a, 0) := by rw [Hl.out]; simp [tellM, ha0, ← Hn', htz]
              clear Hl Hn'
              have Hl := Lib.hid hl
              clear hl
              go_wp2_with fail
              go_region
              all_goals
                go_wp2_with fail
                refine bodyPost_ret (v := .tuple #[.agg #[.int .i64 k, .int .i64 0, .int .i64 0], .int .i64 a, .int .i64 0]) (by simp [results, Tryz.results13, go_sem, k0, k1, k2, hs46, Nat.ne_of_lt hs46]) rfl ⟨by rw [Hl.out]; rfl, ?_⟩
                repeat (first | exact hbW6 | refine Below.setCell ?_ (by simp) _ | refine Below.alloc ?_ (by simp; omega) _ | refine Below.drew ?_)
            · have htz : tm.2.length = 1 := hrr.symm
              have hl : lineW (x :: t) = (⟨k, b, 0⟩, a, 0) := by rw [Hl.out]; simp [tellM, ha0, ← Hn', htz]
              clear Hl Hn'
              have Hl := Lib.hid hl
              clear hl
              obtain ⟨_, _, hAb, _, hb1⟩ := intC_at hsl4 (k := 1) (d := b) rfl
              injection hAb with hAb
              injection hAb with hAb1 hAb2 _
              subst hAb1
              subst hAb2
              go_wp2_with fail
              go_region
              all_goals
                go_wp2_with fail
                refine bodyPost_ret (v := .tuple #[.agg #[.int .i64 k, .int .i64 b, .int .i64 0], .int .i64 a, .int .i64 0]) (by simp [results, Tryz.results13, go_sem, k0, k1, k2, hs46, Nat.ne_of_lt hs46]) rfl ⟨by rw [Hl.out]; rfl, ?_⟩
                repeat (first | exact hbW6 | refine Below.setCell ?_ (by simp) _ | refine Below.alloc ?_ (by simp; omega) _ | refine Below.drew ?_)
            · have htz : tm.2.length = 2 := hrr.symm
              have hl : lineW (x :: t) = (⟨k, b, d⟩, a, 0) := by rw [Hl.out]; simp [tellM, ha0, ← Hn', htz]
              clear Hl Hn'
              have Hl := Lib.hid hl
              clear hl
              obtain ⟨_, _, hAb, _, hb1⟩ := intC_at hsl4 (k := 1) (d := b) rfl
              injection hAb with hAb
              injection hAb with hAb1 hAb2 _
              subst hAb1
              subst hAb2
              obtain ⟨_, _, hAb, _, hb2⟩ := intC_at hsl4 (k := 2) (d := d) rfl
              injection hAb with hAb
              injection hAb with hAb1 hAb2 _
              subst hAb1
              subst hAb2
              go_wp2_with fail
              go_region
              all_goals
                go_wp2_with fail
                refine bodyPost_ret (v := .tuple #[.agg #[.int .i64 k, .int .i64 b, .int .i64 d], .int .i64 a, .int .i64 0]) (by simp [results, Tryz.results13, go_sem, k0, k1, k2, hs46, Nat.ne_of_lt hs46]) rfl ⟨by rw [Hl.out]; rfl, ?_⟩
                repeat (first | exact hbW6 | refine Below.setCell ?_ (by simp) _ | refine Below.alloc ?_ (by simp; omega) _ | refine Below.drew ?_)
            · exfalso
              have := hrr
              simp only [List.length_cons] at this
              omega
        · have hl : lineW (x :: t) = (⟨0, 0, 0⟩, 0, re) := by rw [Hl.out]; simp [tellM, hre]
          clear Hl
          have Hl := Lib.hid hl
          clear hl hrl
          have hreb : (re != 0) = true := by simp [hre]
          clear hown4
          go_wp2_with fail
          refine bodyPost_ret (v := .tuple #[.agg #[.int .i64 0, .int .i64 0, .int .i64 0], .int .i64 0, .int .i64 re]) (by simp [results, Tryz.results13, go_sem, k0, k1, k2]) rfl ⟨by rw [Hl.out]; rfl, ?_⟩
          repeat (first | exact hbW6 | refine Below.setCell ?_ (by simp) _ | refine Below.alloc ?_ (by simp) _)
end Go.Proofs.YtbhmocfiifmmcaaGreatDoor
