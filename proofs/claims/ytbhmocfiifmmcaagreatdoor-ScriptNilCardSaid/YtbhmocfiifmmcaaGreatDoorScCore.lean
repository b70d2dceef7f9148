/- What the texts on script's Parse share: the table of forms, slices that read as lists, things. -/
import Derived.Test.YtbhmocfiifmmcaaGreatDoorShelf
import Derived.Test.YtbhmocfiifmmcaaGreatDoorScPure
import Derived.WalkKit
import Derived.WalkSpells
import Derived.Deep.QuietTactic
import Derived.BigQuiet
import Derived.Lib.QuietBelow
import Derived.Lib.SmallJoins
import Derived.Lib.Hide
import Derived.IntWalk
import Derived.LoopTactic
import Derived.Laws.AppendOwn
import Derived.Deep.RegionLaw
namespace Go.Proofs.YtbhmocfiifmmcaaGreatDoor
open Go.RowKit Go.Lib Go.Sort

def doV (d : Sc.D) : Value := .agg #[.int .i64 d.x, .int .i64 d.a, .int .i64 d.b]
def strV (l : List UInt8) : Value := .string ⟨l.toArray⟩

/-- the table of forms, cell by cell -/
structure Forms (w : World) : Prop where
  c0 : w.cell? ⟨0, 0, none⟩ = some (.string ⟨#[115, 116, 101, 112]⟩)
  c1 : w.cell? ⟨0, 1, none⟩ = some (.int .i64 1)
  c2 : w.cell? ⟨0, 2, none⟩ = some (.string ⟨#[100, 101, 108, 105, 118, 101, 114]⟩)
  c3 : w.cell? ⟨0, 3, none⟩ = some (.int .i64 2)
  c4 : w.cell? ⟨0, 4, none⟩ = some (.string ⟨#[114, 111, 117, 110, 100]⟩)
  c5 : w.cell? ⟨0, 5, none⟩ = some (.int .i64 0)
  c6 : w.cell? ⟨0, 6, none⟩ = some (.string ⟨#[99, 97, 110, 99, 101, 108]⟩)
  c7 : w.cell? ⟨0, 7, none⟩ = some (.int .i64 1)
theorem Forms.lt {w : World} (h : Forms w) : 0 < w.heap.size := World.block_lt_of_cell? _ _ h.c0
theorem Forms.below {w w' : World} {B : Nat} (h : Forms w) (hb : Below B w w') (hB : w.heap.size ≤ B) : Forms w' := by
  have hl := h.lt
  have k : ∀ o, w'.cell? ⟨0, o, none⟩ = w.cell? ⟨0, o, none⟩ := fun o => hb.cell (p := ⟨0, o, none⟩) (by simp; omega)
  exact ⟨(k _).trans h.c0, (k _).trans h.c1, (k _).trans h.c2, (k _).trans h.c3, (k _).trans h.c4, (k _).trans h.c5, (k _).trans h.c6, (k _).trans h.c7⟩

theorem cell_b {w : World} {b o : Nat} {v : Value} (h : w.cell? ⟨b, o, none⟩ = some v) : b < w.heap.size := World.block_lt_of_cell? _ _ h

theorem bcell {W w1 : World} {B : Nat} (hb : Below B W w1) : (∀ b o, b < B → w1.cell? ⟨b, o, none⟩ = W.cell? ⟨b, o, none⟩) ∧ (∀ b o, b < B → w1.frozen? ⟨b, o, none⟩ = W.frozen? ⟨b, o, none⟩) :=
  ⟨fun b o h => hb.cell (p := ⟨b, o, none⟩) h, fun b o h => hb.frozen (p := ⟨b, o, none⟩) h⟩

/-- a slice of structs that reads as a list: below block B -/
def SliceAt {α : Type} (enc : α → List Value) (k : Nat) (w : World) (B : Nat) (A : Option Addr) (l : List α) : Prop :=
  l = [] ∨ ∃ b off, A = some ⟨b, off, none⟩ ∧ b < B ∧ ∀ (i : Nat) (x : α), l[i]? = some x → ∀ (j : Nat) (v : Value), (enc x)[j]? = some v → w.cell? ⟨b, off + i * k + j, none⟩ = some v
theorem SliceAt.below {α : Type} {enc : α → List Value} {k : Nat} {w w' : World} {B B' : Nat} {A : Option Addr} {l : List α} (h : SliceAt enc k w B A l) (hb : Below B' w w') (hB : B ≤ B') : SliceAt enc k w' B A l := by
  rcases h with h | ⟨b, off, e, hlt, hc⟩
  · exact .inl h
  · exact .inr ⟨b, off, e, hlt, fun i x hx j v hv => (hb.cell (p := ⟨b, off + i * k + j, none⟩) (by simp; omega)).trans (hc i x hx j v hv)⟩
theorem SliceAt.mono {α : Type} {enc : α → List Value} {k : Nat} {w : World} {B B' : Nat} {A : Option Addr} {l : List α} (h : SliceAt enc k w B A l) (hB : B ≤ B') : SliceAt enc k w B' A l := by
  rcases h with h | ⟨b, off, e, hlt, hc⟩
  · exact .inl h
  · exact .inr ⟨b, off, e, by omega, hc⟩
theorem SliceAt.cut {α : Type} {enc : α → List Value} {k : Nat} {w : World} {B : Nat} {A : Option Addr} {l : List α} (h : SliceAt enc k w B A l) {n cap : Nat} (hcap : l.length ≤ cap) :
    SliceAt enc k w B (if cap = n then A else A.map (·.add (n * k))) (l.drop n) := by
  by_cases hl : l.drop n = []
  · exact .inl hl
  rcases h with h | ⟨b, off, rfl, hlt, hc⟩
  · subst h; simp at hl
  · have hn : n < l.length := by simpa using hl
    rw [if_neg (by omega)]
    refine .inr ⟨b, off + n * k, by simp [Addr.add], hlt, fun i x hx j v hv => ?_⟩
    rw [List.getElem?_drop] at hx
    have := hc (n + i) x hx j v hv
    rw [Nat.add_mul] at this
    rwa [show off + n * k + i * k + j = off + (n * k + i * k) + j from by omega]

def doC (d : Sc.D) : List Value := [.int .i64 d.x, .int .i64 d.a, .int .i64 d.b]
theorem doC_at {w : World} {B : Nat} {A : Option Addr} {l : List Sc.D} (h : SliceAt doC 3 w B A l) {k : Nat} {d : Sc.D} (hd : l[k]? = some d) :
    ∃ b off, A = some ⟨b, off, none⟩ ∧ b < B ∧ w.cell? ⟨b, off + k * 3, none⟩ = some (.int .i64 d.x) ∧ w.cell? ⟨b, off + k * 3 + 1, none⟩ = some (.int .i64 d.a) ∧ w.cell? ⟨b, off + k * 3 + 2, none⟩ = some (.int .i64 d.b) := by
  rcases h with rfl | ⟨b, off, rfl, hb, hc⟩
  · simp at hd
  · exact ⟨b, off, rfl, hb, hc k d hd 0 _ rfl, hc k d hd 1 _ rfl, hc k d hd 2 _ rfl⟩

theorem flat_at {α : Type} (enc : α → List Value) (k : Nat) (hk : ∀ x, (enc x).length = k) (l : List α) (i : Nat) (x : α) (hx : l[i]? = some x) (j : Nat) (v : Value) (hv : (enc x)[j]? = some v) : (l.flatMap enc)[i * k + j]? = some v := by
  induction l generalizing i with
  | nil => simp at hx
  | cons y l ih =>
    have hj : j < k := by have := (List.getElem?_eq_some_iff.1 hv).1; rwa [hk] at this
    rw [List.flatMap_cons]
    cases i with
    | zero =>
      simp at hx
      subst hx
      rw [Nat.zero_mul, Nat.zero_add, List.getElem?_append_left (by rw [hk]; exact hj)]
      exact hv
    | succ i =>
      rw [List.getElem?_append_right (by rw [hk, Nat.add_mul]; omega), hk, show (i + 1) * k + j - k = i * k + j from by rw [Nat.add_mul]; omega]
      exact ih i (by simpa using hx)

theorem sliceAt_of_own {α : Type} {enc : α → List Value} {k : Nat} (hk : ∀ x, (enc x).length = k) {w : World} {base : Nat} {e : TypeId} {v : Value} {l : List α} (h : w.ownsRow base e k v l.length (l.flatMap enc)) :
    ∃ A c, v = .slice A l.length c ∧ SliceAt enc k w w.heap.size A l ∧ (l = [] ∨ l.length ≤ c) := by
  obtain ⟨_, h⟩ := h
  rcases h with ⟨rfl, hn⟩ | ⟨g, cap, cur, rfl, hb, hg, hnc, hcm, hsz, htk⟩
  · have : l = [] := List.eq_nil_of_length_eq_zero hn
    subst this
    exact ⟨none, 0, rfl, .inl rfl, .inl rfl⟩
  · refine ⟨_, cap, rfl, .inr ⟨g, 0, rfl, (Array.getElem?_eq_some_iff.1 hg).1, fun i x hx j u hu => ?_⟩, .inr hnc⟩
    have := flat_at enc k hk l i x hx j u hu
    rw [← htk] at this
    rw [List.getElem?_take] at this
    split at this
    · simp only [World.cell?, hg, Nat.zero_add]
      simpa using this
    · cases this

theorem addr_add0 (b off n : Nat) : (⟨b, off, none⟩ : Addr).add n = ⟨b, off + n, none⟩ := by
  unfold Addr.add
  split
  · rename_i h; rw [h]; rfl
  · rfl
def I64 (n : Int) : Prop := -9223372036854775808 ≤ n ∧ n ≤ 9223372036854775807
end Go.Proofs.YtbhmocfiifmmcaaGreatDoor
