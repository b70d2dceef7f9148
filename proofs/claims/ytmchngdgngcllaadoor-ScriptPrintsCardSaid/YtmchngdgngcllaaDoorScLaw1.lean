/- The contracts of the law's own plain and same. -/
import Derived.Test.YtmchngdgngcllaaDoorScPrint2
import Derived.Deep.RegionLaw
import Derived.Laws.AppendOwn
namespace Go.Proofs.YtmchngdgngcllaaDoor
open Go.RowKit Go.Lib Go.Sort

theorem flat_at {α : Type} (enc : α → List Value) (k : Nat) (hk : ∀ x, (enc x).length = k) (l : List α) (i : Nat) (x : α) (hx : l[i]? = some x) (j : Nat) (v : Value) (hv : (enc x)[j]? = some v) : (l.flatMap enc)[i * k + j]? = some v := by
  induction l generalizing i with
  | nil => simp at hx
  | cons y l ih =>
    have hj : j < k := by have := (List.getElem?_eq_some_iff.1 hv).1; rwa [hk] at this
    rw [List.flatMap_cons]
    cases i with
    | zero =>
      simp at hx
      subst hx
      rw [Nat.zero_mul, Nat.zero_add, List.getElem?_append_left (by rw [hk]; exact hj)]
      exact hv
    | succ i =>
      rw [List.getElem?_append_right (by rw [hk, Nat.add_mul]; omega), hk, show (i + 1) * k + j - k = i * k + j from by rw [Nat.add_mul]; omega]
      exact ih i (by simpa using hx)

theorem sliceAt_of_own {α : Type} {enc : α → List Value} {k : Nat} (hk : ∀ x, (enc x).length = k) {w : World} {base : Nat} {e : TypeId} {v : Value} {l : List α} (h : w.ownsRow base e k v l.length (l.flatMap enc)) :
    ∃ A c, v = .slice A l.length c ∧ SliceAt enc k w w.heap.size A l ∧ (l = [] ∨ l.length ≤ c) := by
  obtain ⟨_, h⟩ := h
  rcases h with ⟨rfl, hn⟩ | ⟨g, cap, cur, rfl, hb, hg, hnc, hcm, hsz, htk⟩
  · have : l = [] := List.eq_nil_of_length_eq_zero hn
    subst this
    exact ⟨none, 0, rfl, .inl rfl, .inl rfl⟩
  · refine ⟨_, cap, rfl, .inr ⟨g, 0, rfl, (Array.getElem?_eq_some_iff.1 hg).1, fun i x hx j u hu => ?_⟩, .inr hnc⟩
    have := flat_at enc k hk l i x hx j u hu
    rw [← htk] at this
    rw [List.getElem?_take] at this
    split at this
    · simp only [World.cell?, hg, Nat.zero_add]
      simpa using this
    · cases this

theorem step_append_own {P : Program} {w : World} {ops : Array Oper} {o : Oper} {a : Act} {K : Act → World → Prop} {Q : Exit → Act → World → Prop} {E : Prop} (hg : o.guard = none) (s x : Operand) (t : TypeId)
    (ho : o.op = .call { callee := .builtin .append, args := #[s, x], argTypes := #[t, t] })
    (base : Nat) (e : TypeId) (i : TypeInfo) (z : Value) (size bytes : Nat) (ht : P.underlying t = some (.slice e)) (hi : P.info? e = some i) (hz : i.zero = some z)
    (hsize : i.size = size) (hby : i.bytes = bytes) (hzs : z.cells.size = size) (hsz : 0 < size)
    (v : Value) (n : Nat) (xs : List Value) (hs : a.eval s = v) (hown : w.ownsRow base e size v n xs)
    (ad : Addr) (m c : Nat) (news : List Value) (hx : a.eval x = .slice (some ad) m c) (hl : news.length = m * size) (hnews : ∀ j u, news[j]? = some u → w.cell? (ad.add j) = some u) (h1 : ∀ u ∈ news, u.oneCell' = true)
    (h63 : n + m ≤ maxLen) (hbytes : (n + m) * bytes ≤ 140737488355328) (hbase : base ≤ w.heap.size)
    (h : ∀ v' w', w'.ownsRow base e size v' (n + m) (xs ++ news) → w.grownBy w' v.ownBlock → K (a.put o.dst v') w') :
    if Region.wanted o (yielded ops a.tmps) = true then Oper.wp P o a w K Q else E := by
  have hw : Region.wanted o (yielded ops a.tmps) = true := by simp [Region.wanted, hg]
  rw [if_pos hw]
  exact wp_append_own w s x t ho base e i z size bytes ht hi hz hsize hby hzs hsz v n xs hs hown ad m c news hx hl hnews h1 h63 hbytes hbase fun v' w' h2 h3 _ => h v' w' h2 h3

theorem info_rdo : (Tryd.prog.info? 35).map (fun i => (i.zero, i.size, i.bytes)) = some (some (.agg #[.int .i64 0, .int .i64 0, .int .i64 0]), 3, 24) := by kernel_rfl

set_option maxRecDepth 100000 in
set_option maxHeartbeats 2000000 in
theorem plain_calls (A : Option Addr) (c : Nat) (l : List Sc.D) (w : World) (hl : SliceAt doC 3 w w.heap.size A l) (hn : l.length ≤ 4096) :
    Calls Tryd.prog 7 #[.slice A l.length c] w fun e w' => ∃ A' c', e = .returned (.slice A' l.length c') ∧ SliceAt doC 3 w' w'.heap.size A' l ∧ Below w.heap.size w w' := by
  go_enter Tryd.func7, Tryd.ntmps7
  go_wp2_with fail
  go_loopw [3, 4] (fun v i wr => ∃ k : Nat, k ≤ l.length ∧ i = .int .i64 k ∧ wr.ownsRow w.heap.size 35 3 v (l.take k).length ((l.take k).flatMap doC) ∧ Below w.heap.size w wr) (fun _ i _ => l.length - (intOf i).toNat)
  case atStart => exact ⟨0, Nat.zero_le _, rfl, World.ownsRow_nil _ _ _ _, Below.refl _ _⟩
  case round =>
    obtain ⟨k, hk, rfl, hown, hb⟩ := hrel
    have hbs := hb.size
    by_cases hlt : k < l.length
    · have hd : l[k]? = some l[k] := List.getElem?_eq_getElem hlt
      generalize l[k] = d at hd
      obtain ⟨b, off, rfl, hbB, h0, h1, h2⟩ := doC_at hl hd
      obtain ⟨hcc, _⟩ := bcell hb
      go_wp2_with fail
      have htk : l.take (k + 1) = l.take k ++ [d] := by rw [List.take_add_one, hd]; rfl
      have hlk : (l.take k).length = k := by rw [List.length_take]; omega
      have g0 := (hb.cell (p := ⟨b, off + k * 3, none⟩) hbB).trans h0
      have g1 := (hb.cell (p := ⟨b, off + k * 3 + 1, none⟩) hbB).trans h1
      have g2 := (hb.cell (p := ⟨b, off + k * 3 + 2, none⟩) hbB).trans h2
      have Htk := Lib.hid htk
      have Hlk := Lib.hid hlk
      clear htk hlk hd hcc h0 h1 h2
      obtain ⟨i0, hi, hz0, hz1, hz2⟩ := info_parts info_rdo
      have hcn : ∀ (j : Nat) (u : Value), (doC d)[j]? = some u → (wr.alloc (.cells #[.int .i64 d.x, .int .i64 d.a, .int .i64 d.b] 35)).cell? ((⟨wr.heap.size, 0, none⟩ : Addr).add j) = some u := fun j u hj => by
        rw [addr_add0, Nat.zero_add, World.cell?_alloc_new]
        simpa [doC] using hj
      have h63 : (l.take k).length + 1 ≤ maxLen := by rw [Hlk.out]; unfold maxLen; omega
      have hby : ((l.take k).length + 1) * 24 ≤ 140737488355328 := by rw [Hlk.out]; omega
      have honec : ∀ u ∈ doC d, u.oneCell' = true := by simp [doC, Value.oneCell']
      have hownA := hown.alloc (.cells #[.int .i64 d.x, .int .i64 d.a, .int .i64 d.b] 35)
      have hbase : w.heap.size ≤ (wr.alloc (.cells #[.int .i64 d.x, .int .i64 d.a, .int .i64 d.b] 35)).heap.size := by simp; omega
      have HcnH := Lib.hid hcn
      have H63 := Lib.hid h63
      have Hby := Lib.hid hby
      have Hone := Lib.hid honec
      have HownA := Lib.hid hownA
      have Hbase := Lib.hid hbase
      clear hcn h63 hby honec hownA hbase
      go_region_law ((refine step_append_own rfl _ _ 28 rfl w.heap.size 35 i0 _ 3 24 Tryd.underlying28 hi hz0 hz1 hz2 rfl (by decide) _ _ _ rfl HownA.out ⟨wr.heap.size, 0, none⟩ 1 1 (doC d) rfl rfl HcnH.out Hone.out H63.out Hby.out Hbase.out ?_; intro v' w3 hown3 hgrow))
      all_goals
        clear g0 g1 g2
        go_wp2
        go_roundw
        case rel =>
          refine ⟨k + 1, by omega, by go_num, ?_, ?_⟩
          · rw [Htk.out, List.length_append, List.flatMap_append]
            simpa using hown3
          · exact ((hb.alloc hbs _).drew).grown hgrow Hbase.out (fun g hg => (HownA.out.lt g hg).1)
        case measure => simp [intOf]; omega
    · have hlt' : ¬ (k : Int) < l.length := by omega
      rw [List.take_of_length_le (by omega)] at hown
      obtain ⟨A', c', rfl, hs, _⟩ := sliceAt_of_own (enc := doC) (fun _ => rfl) hown
      go_wp2_with fail
      go_ret
      exact ⟨A', ⟨c', rfl⟩, hs, hb⟩
end Go.Proofs.YtmchngdgngcllaaDoor
