/- Plain lemmas on what a text of things is: the program's way to print, and the reference's, come to the same. No program is in sight. -/
import Derived.Lib.ItoaNum
namespace Go.Proofs.YtbhmocfiifmmcaaGreatDoor.Sc
open Go.Lib

structure D where
  x : Int
  a : Int
  b : Int
deriving DecidableEq

def nums (x : Int) : Int := if x = 1 then 2 else if x = 2 then 0 else 1
def ta (x a : Int) : Int := if nums x < 1 then 0 else a
def tb (x b : Int) : Int := if nums x < 2 then 0 else b
def told (d : D) : D := ⟨d.x, ta d.x d.a, tb d.x d.b⟩
def may (d : D) : Prop := 0 ≤ d.x ∧ d.x ≤ 3 ∧ 0 ≤ ta d.x d.a ∧ ta d.x d.a ≤ 4095 ∧ 0 ≤ tb d.x d.b ∧ tb d.x d.b ≤ 4095
instance (d : D) : Decidable (may d) := by unfold may; infer_instance
def word (x : Int) : List UInt8 :=
  if x = 0 then [115, 116, 101, 112] else if x = 1 then [100, 101, 108, 105, 118, 101, 114] else if x = 2 then [114, 111, 117, 110, 100] else [99, 97, 110, 99, 101, 108]
def text (d : D) : List UInt8 := word d.x ++ ((if 0 < nums d.x then 32 :: itoa d.a else []) ++ (if 1 < nums d.x then 32 :: itoa d.b else []))

/-- of so many more at most, how many are the same as d -/
def runLen : Nat → D → List D → Nat
  | 0, _, _ => 0
  | _ + 1, _, [] => 0
  | c + 1, d, e :: r => if told e = told d then runLen c d r + 1 else 0

theorem runLen_le (c : Nat) (d : D) (r : List D) : runLen c d r ≤ r.length ∧ runLen c d r ≤ c := by
  induction r generalizing c with
  | nil => cases c <;> simp [runLen]
  | cons e r ih =>
    cases c with
    | zero => simp [runLen]
    | succ c =>
      have := ih c
      simp only [runLen]
      split <;> simp <;> omega

def times (n : Nat) : List UInt8 := if 1 < n then 32 :: 120 :: itoa n else []

def printL : List D → List UInt8
  | [] => []
  | d :: r => text d ++ (times (1 + runLen 4094 d r) ++ 10 :: printL (r.drop (runLen 4094 d r)))
termination_by l => l.length
decreasing_by simp; omega

def same1 (d : D) : List D → Bool
  | [] => false
  | e :: _ => decide (told e = told d)

/-- the reference's way: how many of the same there were ahead -/
def refGo : Nat → List D → List UInt8
  | _, [] => []
  | n, d :: r => if n + 1 < 4095 ∧ same1 d r = true then refGo (n + 1) r else text d ++ (times (n + 1) ++ 10 :: refGo 0 r)

theorem nums_cases (x : Int) : (x = 1 ∧ nums x = 2) ∨ (x = 2 ∧ nums x = 0) ∨ (x ≠ 1 ∧ x ≠ 2 ∧ nums x = 1) := by
  unfold nums
  split
  · left; exact ⟨‹_›, rfl⟩
  · split
    · right; left; exact ⟨‹_›, rfl⟩
    · right; right; exact ⟨‹_›, ‹_›, rfl⟩

theorem text_of_told {d e : D} (h : told e = told d) : text e = text d := by
  obtain ⟨x, a, b⟩ := d
  obtain ⟨y, a', b'⟩ := e
  simp only [told, D.mk.injEq] at h
  obtain ⟨rfl, h1, h2⟩ := h
  unfold text
  unfold ta at h1
  unfold tb at h2
  simp only
  rcases nums_cases y with ⟨_, hn⟩ | ⟨_, hn⟩ | ⟨_, _, hn⟩ <;> rw [hn] at h1 h2 ⊢ <;> simp at h1 h2 ⊢ <;> simp [*]

theorem runLen_told {d e : D} (h : told e = told d) (c : Nat) (r : List D) : runLen c e r = runLen c d r := by
  induction r generalizing c with
  | nil => cases c <;> simp [runLen]
  | cons f r ih =>
    cases c with
    | zero => simp [runLen]
    | succ c => simp only [runLen, h, ih]

theorem runLen_step {d e : D} {r : List D} {j : Nat} (h1 : 1 ≤ j) (hj : j < 4095) (he : (d :: r)[j]? = some e) (ht : told e = told d) :
    runLen (4095 - j) d (r.drop (j - 1)) = runLen (4095 - (j + 1)) d (r.drop (j + 1 - 1)) + 1 := by
  obtain ⟨i, rfl⟩ : ∃ i, j = i + 1 := ⟨j - 1, by omega⟩
  rw [List.getElem?_cons_succ] at he
  obtain ⟨hi, hie⟩ := List.getElem?_eq_some_iff.1 he
  rw [Nat.add_sub_cancel, Nat.add_sub_cancel, List.drop_eq_getElem_cons hi, hie, show 4095 - (i + 1) = 4095 - (i + 1 + 1) + 1 from by omega]
  simp [runLen, ht]

theorem runLen_stop {d : D} {r : List D} {j : Nat} (h1 : 1 ≤ j) (h : ¬ (j < (d :: r).length ∧ j < 4095 ∧ ∃ e, (d :: r)[j]? = some e ∧ told e = told d)) : runLen (4095 - j) d (r.drop (j - 1)) = 0 := by
  obtain ⟨i, rfl⟩ : ∃ i, j = i + 1 := ⟨j - 1, by omega⟩
  rw [Nat.add_sub_cancel]
  by_cases hi : i < r.length
  · by_cases hj : i + 1 < 4095
    · rw [List.drop_eq_getElem_cons hi, show 4095 - (i + 1) = 4095 - (i + 1 + 1) + 1 from by omega]
      have : ¬ told r[i] = told d := fun ht => h ⟨by simp; omega, hj, r[i], by simp [hi], ht⟩
      simp [runLen, this]
    · rw [show 4095 - (i + 1) = 0 from by omega]
      rfl
  · rw [List.drop_eq_nil_of_le (by omega)]
    cases 4095 - (i + 1) <;> rfl

theorem refGo_run (r : List D) : ∀ (d : D) (n c : Nat), n + c = 4094 → refGo n (d :: r) = text d ++ (times (n + 1 + runLen c d r) ++ 10 :: refGo 0 (r.drop (runLen c d r))) := by
  induction r with
  | nil =>
    intro d n c h
    have hl : runLen c d [] = 0 := by cases c <;> rfl
    rw [hl]
    simp [refGo, same1]
  | cons e r ih =>
    intro d n c h
    cases c with
    | zero =>
      rw [refGo, if_neg (by omega)]
      simp [runLen]
    | succ c =>
      by_cases he : told e = told d
      · rw [refGo, if_pos ⟨by omega, by simp [same1, he]⟩, ih e (n + 1) c (by omega), runLen_told he, text_of_told he]
        simp only [runLen, he, if_true, List.drop_succ_cons]
        rw [show n + 1 + 1 + runLen c d r = n + 1 + (runLen c d r + 1) from by omega]
      · rw [refGo, if_neg (by simp [same1, he])]
        simp [runLen, he]

theorem refGo_eq (l : List D) : refGo 0 l = printL l := by
  induction hn : l.length using Nat.strongRecOn generalizing l with
  | ind n ih =>
    cases l with
    | nil => simp [refGo, printL]
    | cons d r =>
      rw [refGo_run r d 0 4094 rfl, printL, ih _ (by simp at hn; rw [List.length_drop]; omega) (r.drop (runLen 4094 d r)) rfl]

theorem itoa_nat (n : Nat) : itoa n = decDigits n := by
  unfold itoa
  rw [if_neg (by omega)]
  rfl
theorem itoa_pos {n : Int} (h : 0 ≤ n) : itoa n = decDigits n.toNat := by
  unfold itoa
  rw [if_neg (by omega)]

end Go.Proofs.YtbhmocfiifmmcaaGreatDoor.Sc
