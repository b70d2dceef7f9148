/- The contract of script.Print: of things that may all be told, the text of them; else ErrRange. -/
import Derived.Test.YtmchngdgngcllaaDoorScBase
import Derived.IntWalk
import Derived.LoopTactic
import Derived.Lib.ItoaLen
import Derived.Laws.StructEq
namespace Go.Proofs.YtmchngdgngcllaaDoor
open Go.RowKit Go.Lib Go.Sort

/-- a slice of structs that reads as a list: below block B -/
def SliceAt {α : Type} (enc : α → List Value) (k : Nat) (w : World) (B : Nat) (A : Option Addr) (l : List α) : Prop :=
  l = [] ∨ ∃ b off, A = some ⟨b, off, none⟩ ∧ b < B ∧ ∀ (i : Nat) (x : α), l[i]? = some x → ∀ (j : Nat) (v : Value), (enc x)[j]? = some v → w.cell? ⟨b, off + i * k + j, none⟩ = some v
theorem SliceAt.below {α : Type} {enc : α → List Value} {k : Nat} {w w' : World} {B B' : Nat} {A : Option Addr} {l : List α} (h : SliceAt enc k w B A l) (hb : Below B' w w') (hB : B ≤ B') : SliceAt enc k w' B A l := by
  rcases h with h | ⟨b, off, e, hlt, hc⟩
  · exact .inl h
  · exact .inr ⟨b, off, e, hlt, fun i x hx j v hv => (hb.cell (p := ⟨b, off + i * k + j, none⟩) (by simp; omega)).trans (hc i x hx j v hv)⟩
theorem SliceAt.mono {α : Type} {enc : α → List Value} {k : Nat} {w : World} {B B' : Nat} {A : Option Addr} {l : List α} (h : SliceAt enc k w B A l) (hB : B ≤ B') : SliceAt enc k w B' A l := by
  rcases h with h | ⟨b, off, e, hlt, hc⟩
  · exact .inl h
  · exact .inr ⟨b, off, e, by omega, hc⟩
theorem SliceAt.cut {α : Type} {enc : α → List Value} {k : Nat} {w : World} {B : Nat} {A : Option Addr} {l : List α} (h : SliceAt enc k w B A l) {n cap : Nat} (hcap : l.length ≤ cap) :
    SliceAt enc k w B (if cap = n then A else A.map (·.add (n * k))) (l.drop n) := by
  by_cases hl : l.drop n = []
  · exact .inl hl
  rcases h with h | ⟨b, off, rfl, hlt, hc⟩
  · subst h; simp at hl
  · have hn : n < l.length := by simpa using hl
    rw [if_neg (by omega)]
    refine .inr ⟨b, off + n * k, by simp [Addr.add], hlt, fun i x hx j v hv => ?_⟩
    rw [List.getElem?_drop] at hx
    have := hc (n + i) x hx j v hv
    rw [Nat.add_mul] at this
    rwa [show off + n * k + i * k + j = off + (n * k + i * k) + j from by omega]

def doC (d : Sc.D) : List Value := [.int .i64 d.x, .int .i64 d.a, .int .i64 d.b]
theorem doC_at {w : World} {B : Nat} {A : Option Addr} {l : List Sc.D} (h : SliceAt doC 3 w B A l) {k : Nat} {d : Sc.D} (hd : l[k]? = some d) :
    ∃ b off, A = some ⟨b, off, none⟩ ∧ b < B ∧ w.cell? ⟨b, off + k * 3, none⟩ = some (.int .i64 d.x) ∧ w.cell? ⟨b, off + k * 3 + 1, none⟩ = some (.int .i64 d.a) ∧ w.cell? ⟨b, off + k * 3 + 2, none⟩ = some (.int .i64 d.b) := by
  rcases h with rfl | ⟨b, off, rfl, hb, hc⟩
  · simp at hd
  · exact ⟨b, off, rfl, hb, hc k d hd 0 _ rfl, hc k d hd 1 _ rfl, hc k d hd 2 _ rfl⟩

set_option maxRecDepth 100000 in
/-- a thing that may not be told: ErrRange -/
theorem print_bad (A : Option Addr) (c : Nat) (l : List Sc.D) (w : World) (hl : SliceAt doC 3 w w.heap.size A l) (hn : l.length ≤ 4096) (hf : Forms w) (hbad : ∃ (j : Nat) (d : Sc.D), l[j]? = some d ∧ ¬ Sc.may d) :
    Calls Tryd.prog 5 #[.slice A l.length c] w fun e w' => e = .returned (.tuple #[.string ⟨#[]⟩, .int .i64 10]) ∧ Below w.heap.size w w' := by
  go_enter Tryd.func5, Tryd.ntmps5
  go_wp2_with fail
  go_loopw [10] (fun i wr => ∃ k : Nat, k ≤ l.length ∧ i = .int .i64 k ∧ (∀ (j : Nat) (d : Sc.D), j < k → l[j]? = some d → Sc.may d) ∧ Below w.heap.size w wr) (fun i _ => l.length - (intOf i).toNat)
  case atStart => exact ⟨0, Nat.zero_le _, rfl, fun j d h => by omega, Below.refl _ _⟩
  case round =>
    obtain ⟨k, hk, rfl, hmay, hb⟩ := hrel
    have hlt : k < l.length := by
      rcases Nat.lt_or_ge k l.length with h | h
      · exact h
      · obtain ⟨j, d, hj, hd⟩ := hbad
        have := (List.getElem?_eq_some_iff.1 hj).1
        exact absurd (hmay j d (by omega) hj) hd
    have hd : l[k]? = some l[k] := List.getElem?_eq_getElem hlt
    generalize l[k] = d at hd
    obtain ⟨b, off, rfl, hbB, h0, h1, h2⟩ := doC_at hl hd
    obtain ⟨hcc, _⟩ := bcell hb
    have hM : ∀ o : Obj, Calls Tryd.prog 10 #[.agg #[.int .i64 d.x, .int .i64 d.a, .int .i64 d.b]] (wr.alloc o) fun e w' => e = .returned (.bool (decide (Sc.may d))) ∧ Below (wr.heap.size + 1) (wr.alloc o) w' := fun o => by
      have := may_calls d (wr.alloc o) (hf.below (hb.alloc hb.size _) (Nat.le_refl _))
      simpa [doV] using this
    have hbs := hb.size
    have Hd := Lib.hid hd
    clear hd hl hbad
    by_cases hm : Sc.may d
    · rw [decide_eq_true hm] at hM
      go_wp2_with (go_at_call 10; refine (hM _).mono ?_; rintro e w1 ⟨rfl, hb1⟩)
      go_roundw
      case rel =>
        refine ⟨k + 1, by omega, by go_num, fun j d' hj hd' => ?_, (hb.alloc hb.size _).trans (hb1.mono (by omega))⟩
        by_cases hjk : j < k
        · exact hmay j d' hjk hd'
        · obtain rfl : j = k := by omega
          rw [Hd.out] at hd'
          cases hd'
          exact hm
      case measure => simp [intOf]; omega
    · rw [decide_eq_false hm] at hM
      go_wp2_with (go_at_call 10; refine (hM _).mono ?_; rintro e w1 ⟨rfl, hb1⟩)
      go_ret2
      exact ⟨rfl, (hb.alloc hb.size _).trans (hb1.mono (by omega))⟩

theorem below_grownBy {a w : World} (h : Below a.heap.size a w) (row : Option Nat) : a.grownBy w row := ⟨h.os, h.tape, h.output, h.size, fun i hi _ => h.block i hi⟩
theorem builder_below {T e : TypeId} {B b : Nat} {bs : List Value} {w w' : World} (h : Lib.IsBuilderF T e B b bs w) (hb : Below w.heap.size w w') : Lib.IsBuilderF T e B b bs w' := by
  have k : ∀ p, Lib.BuilderAtF T e B b p bs w → Lib.BuilderAtF T e B b p bs w' := by
    rintro p ⟨h1, v, h2, h3, h4⟩
    refine ⟨h1, v, (hb.block b (Array.getElem?_eq_some_iff.1 h2).1).trans h2, h3.kept (below_grownBy hb none) ?_, h4⟩
    cases v.ownBlock <;> simp
  rcases h with h | h
  · exact .inl (k _ h)
  · exact .inr (k _ h)
theorem builder_lt {T e : TypeId} {B b : Nat} {bs : List Value} {w : World} (h : Lib.IsBuilderF T e B b bs w) : b < w.heap.size := by
  rcases h with h | h <;> exact h.lt

theorem eql_do (d e : Sc.D) (w : World) : (binOp .eql 36 (doV d) (doV e)).run Tryd.prog w = .ok (.bool (decide (d = e))) w := by
  have u3 := Tryd.underlying3
  have a3 := Tryd.isAgg3
  have z3 := Tryd.sizeOf3
  have hS : Tryd.prog.underlying 36 = some (.struct (Tryd.prog.fieldsOf 36)) := by kernel_rfl
  have hp : Tryd.prog.stoodInHeld 36 = false := by kernel_rfl
  obtain ⟨x, a, b⟩ := d
  obtain ⟨y, a', b'⟩ := e
  simp only [doV]
  rw [run_eql_struct, show (10000 : Nat) = 9999 + 1 from rfl, run_equalIn_agg w 9999 36 _ _ hS hp]
  simp only [Program.fieldsOf, Tryd.underlying36]
  go_simp
  by_cases h1 : x = y <;> by_cases h2 : a = a' <;> by_cases h3 : b = b' <;> simp [h1, h2, h3]
end Go.Proofs.YtmchngdgngcllaaDoor
