/- The text turned twice; cut; Xor's contract with the length named. -/
import Derived.Test.YtmineipjnllopaaF2
namespace Go.Proofs.Ytmineipjnllopaa
open Go.RowKit Go.Shelf
set_option linter.unusedVariables false

theorem xr_xr {x y : Int} (hx : 0 ≤ x) : xr (xr x y) y = x := by
  unfold xr
  simp only [Int.toNat_natCast]
  rw [Nat.xor_assoc, Nat.xor_self, Nat.xor_zero]
  omega
theorem xorL_getD (ks ns : List Int) (c : Int) (bs : List Int) : ∀ (m j : Nat), j < m → (xorL ks ns c bs m)[j]? = some (xr (bs.getD j 0) (sb ks ns c j))
  | m + 1, j, h => by
    rw [xorL_succ]
    by_cases hj : j < m
    · rw [List.getElem?_append_left (by rw [xorL_length]; exact hj)]
      exact xorL_getD ks ns c bs m j hj
    · have : j = m := by omega
      subst this
      rw [List.getElem?_append_right (by rw [xorL_length]; exact Nat.le_refl _), xorL_length, Nat.sub_self]
      rfl
theorem xorL_twice (ks ns : List Int) (c : Int) (bs : List Int) (n : Nat) (hl : bs.length = n) (hb : Bytes bs) : xorL ks ns c (xorL ks ns c bs n) n = bs := by
  apply List.ext_getElem?
  intro j
  by_cases hj : j < n
  · have e1 : (xorL ks ns c bs n).getD j 0 = xr (bs.getD j 0) (sb ks ns c j) := by rw [List.getD, xorL_getD _ _ _ _ _ _ hj, Option.getD_some]
    rw [xorL_getD _ _ _ _ _ _ hj, e1, xr_xr (hb.at_ (by omega)).1, List.getD, List.getElem?_eq_getElem (by omega), Option.getD_some]
  · rw [List.getElem?_eq_none (by rw [xorL_length]; omega), List.getElem?_eq_none (by omega)]
theorem xorL_take (ks ns : List Int) (c : Int) (bs : List Int) (n k : Nat) (hk : k ≤ n) : (xorL ks ns c bs n).take k = xorL ks ns c (bs.take k) k := by
  apply List.ext_getElem?
  intro j
  by_cases hj : j < k
  · have e1 : (bs.take k).getD j 0 = bs.getD j 0 := by rw [List.getD, List.getD, List.getElem?_take_of_lt hj]
    rw [List.getElem?_take_of_lt hj, xorL_getD _ _ _ _ _ _ (by omega), xorL_getD _ _ _ _ _ _ hj, e1]
  · rw [List.getElem?_eq_none (by simp; omega), List.getElem?_eq_none (by rw [xorL_length]; omega)]

/-- Own, its own bounds told. -/
theorem Own.cap {w : World} {a : Option Addr} {n c : Nat} {xs : List Int} (h : Own w (.slice a n c) xs) : n ≤ c ∧ (a = none → c = 0) := by
  obtain ⟨a', c', hv, hle, _, hz, _⟩ := h.form
  cases hv
  exact ⟨hle, hz⟩
theorem xor_row (ks ns bs : List Int) (c : Int) (b0 : Option Addr) (n cp : Nat) (w : World) (hk : ks.length = 32) (hn : ns.length = 12) (bk : Bytes ks) (bn : Bytes ns) (hc : Word c)
    (hr : Reads w b0 bs) (hl : bs.length = n) (hb : Bytes bs) (hn2 : n ≤ 65536) :
    Calls Try.prog 12 #[.agg (ints ks).toArray, .agg (ints ns).toArray, .int .u32 c, .slice b0 n cp] w (RStreamAt w n (xorL ks ns c bs n)) := by
  refine (xor_ok ks ns bs c b0 n cp w hk hn bk bn hc hr hl hb hn2).mono ?_
  rintro e w' ⟨a', n', c', rfl, own, b, f⟩
  have hl := own.reads.2
  rw [xorL_length] at hl
  subst hl
  exact ⟨a', c', rfl, own, b, f⟩
theorem stream_row (ks ns : List Int) (c : Int) (n : Nat) (w : World) (hk : ks.length = 32) (hn : ns.length = 12) (bk : Bytes ks) (bn : Bytes ns) (hc : Word c) (hn2 : n ≤ 65536) :
    Calls Try.prog 8 #[.agg (ints ks).toArray, .agg (ints ns).toArray, .int .u32 c, .int .i64 n] w fun e w' => ∃ a' c', e = .returned (.tuple #[.slice a' n c', .int .i64 0]) ∧ Own w' (.slice a' n c') (strL ks ns c n) ∧ Below w.heap.size w w' ∧ ∀ k, (Value.slice a' n c').ownBlock = some k → w.heap.size ≤ k := by
  refine (stream_ok ks ns c n w hk hn bk bn hc hn2).mono ?_
  rintro e w' ⟨a', n', c', rfl, own, b, f⟩
  have hl := own.reads.2
  rw [strL_length] at hl
  subst hl
  exact ⟨a', c', rfl, own, b, f⟩
/-- Cells of a row, at any place: what a slice cut off reads. -/
theorem reads_take {w : World} {a : Option Addr} {xs : List Int} (h : Reads w a xs) (k : Nat) : Reads w a (xs.take k) := by
  refine ⟨fun ha => by rw [h.1 ha, List.take_nil], fun x hx i hi => ?_⟩
  have hl : i < xs.length ∧ i < k := by simp at hi; omega
  rw [h.2 x hx i hl.1]
  rw [List.getD, List.getD, List.getElem?_take_of_lt hl.2]
end Go.Proofs.Ytmineipjnllopaa
