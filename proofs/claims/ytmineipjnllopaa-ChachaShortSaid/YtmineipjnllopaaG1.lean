/- The stream, plainly; a text cut. -/
import Derived.Test.YtmineipjnllopaaE10
namespace Go.Proofs.Ytmineipjnllopaa
open Go.RowKit Go.Shelf
set_option linter.unusedVariables false

theorem strL_getD (ks ns : List Int) (c : Int) : ∀ (m j : Nat), j < m → (strL ks ns c m)[j]? = some (sb ks ns c j)
  | m + 1, j, h => by
    simp only [strL]
    by_cases hj : j < m
    · rw [List.getElem?_append_left (by rw [strL_length]; exact hj)]
      exact strL_getD ks ns c m j hj
    · have : j = m := by omega
      subst this
      rw [List.getElem?_append_right (by rw [strL_length]; exact Nat.le_refl _), strL_length]
      simp
theorem ctr_ctr (c : Int) (m i : Nat) : ctr (ctr c m) i = ctr c (m + i) := by unfold ctr; omega
theorem sb_later (ks ns : List Int) (c : Int) (m j : Nat) : sb ks ns (ctr c m) j = sb ks ns c (64 * m + j) := by
  unfold sb
  rw [ctr_ctr, show (64 * m + j) / 64 = m + j / 64 by omega, show (64 * m + j) % 64 = j % 64 by omega]
theorem strL_later (ks ns : List Int) (c : Int) (m l n : Nat) (h : 64 * m + l ≤ n) : ((strL ks ns c n).drop (64 * m)).take l = strL ks ns (ctr c m) l := by
  apply List.ext_getElem?
  intro j
  by_cases hj : j < l
  · rw [List.getElem?_take_of_lt hj, List.getElem?_drop, strL_getD _ _ _ _ _ (by omega), strL_getD _ _ _ _ _ hj, sb_later]
  · rw [List.getElem?_eq_none (by simp; omega), List.getElem?_eq_none (by rw [strL_length]; omega)]
theorem strL_take (ks ns : List Int) (c : Int) (n l : Nat) (h : l ≤ n) : (strL ks ns c n).take l = strL ks ns c l := by
  have := strL_later ks ns c 0 l n (by omega)
  have e : ctr c 0 = c % 4294967296 := by unfold ctr; omega
  apply List.ext_getElem?
  intro j
  by_cases hj : j < l
  · rw [List.getElem?_take_of_lt hj, strL_getD _ _ _ _ _ (by omega), strL_getD _ _ _ _ _ hj]
  · rw [List.getElem?_eq_none (by simp; omega), List.getElem?_eq_none (by rw [strL_length]; omega)]
theorem strL_bytes (ks ns : List Int) (c : Int) : ∀ m, Bytes (strL ks ns c m)
  | 0 => fun x hx => by cases hx
  | m + 1 => fun x hx => by
    rcases List.mem_append.1 hx with h | h
    · exact strL_bytes ks ns c m x h
    · rw [List.mem_singleton.1 h]; exact sb_byte ks ns c m

theorem reads_cut {w : World} {g : Nat} {xs : List Int} (h : Reads w (some ⟨g, 0, none⟩) xs) (o l : Nat) : Reads w (some ⟨g, o, none⟩) ((xs.drop o).take l) := by
  refine ⟨fun h => (by cases h), fun x hx i hi => ?_⟩
  cases hx
  have hl : o + i < xs.length ∧ i < l := by simp at hi; omega
  have := h.2 _ rfl (o + i) hl.1
  rw [Addr.add_lit, Nat.zero_add] at this
  rw [Addr.add_lit, this]
  simp [List.getD, List.getElem?_take_of_lt hl.2, List.getElem?_drop]
theorem reads_below {w w' : World} {a : Option Addr} {xs : List Int} (h : Reads w a xs) (b : Below w.heap.size w w') : Reads w' a xs := h.later b

/-- Stream's contract, the number written out. -/
theorem stream_lit (ks ns : List Int) (c : Int) (n : Nat) (N : Int) (hN : N = n) (w : World) (hk : ks.length = 32) (hn : ns.length = 12) (bk : Bytes ks) (bn : Bytes ns) (hc : Word c) (hn2 : n ≤ 65536) (h1 : 0 < n) :
    Calls Try.prog 8 #[.agg (ints ks).toArray, .agg (ints ns).toArray, .int .u32 c, .int .i64 N] w fun e w' => ∃ g cc, e = .returned (.tuple #[.slice (some ⟨g, 0, none⟩) n cc, .int .i64 0]) ∧ Own w' (.slice (some ⟨g, 0, none⟩) n cc) (strL ks ns c n) ∧ Below w.heap.size w w' ∧ w.heap.size ≤ g ∧ n ≤ cc := by
  subst hN
  refine (stream_ok ks ns c n w hk hn bk bn hc hn2).mono ?_
  rintro e w' ⟨a', n', c', rfl, own, b, f⟩
  have hl := own.reads.2
  rw [strL_length] at hl
  subst hl
  obtain ⟨g, rfl, hg⟩ := own.head h1
  obtain ⟨a2, c2, hv, hle, _⟩ := own.form
  rw [strL_length] at hv hle
  cases hv
  exact ⟨g, c', rfl, own, b, f g rfl, hle⟩
end Go.Proofs.Ytmineipjnllopaa
