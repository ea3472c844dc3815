/- Xor: from its beginning to the range. -/
import Derived.Test.YtmineipjnllopaaE5
import Derived.OwnWalk
namespace Go.Proofs.Ytmineipjnllopaa
open Go.RowKit Go.Shelf
set_option linter.unusedVariables false

/-- The four boxes of Xor's frame. -/
def four (w : World) (K N : Array Value) (v : Value) : World := (((w.alloc (.cells K 23)).alloc (.cells N 29)).alloc (.cells #[v] 25)).alloc (.cells #[.slice none 0 0] 25)
theorem four_size (w : World) (K N : Array Value) (v : Value) : (four w K N v).heap.size = w.heap.size + 1 + 1 + 1 + 1 := by simp [four]
theorem four_facts (w : World) (K N : Array Value) (v : Value) {w1 : World} (gr : (four w K N v).grownBy w1 none) :
    w1.heap[w.heap.size]? = some (.cells K 23 (0, 0)) ∧ w1.heap[w.heap.size + 1]? = some (.cells N 29 (0, 0)) ∧ w1.heap[w.heap.size + 1 + 1]? = some (.cells #[v] 25 (0, 0)) ∧
    w1.heap[w.heap.size + 1 + 1 + 1]? = some (.cells #[.slice none 0 0] 25 (0, 0)) ∧ w.heap.size + 1 + 1 + 1 + 1 ≤ w1.heap.size ∧ Below w.heap.size w w1 := by
  have k : Keeps (four w K N v) w1 (fun _ => False) := Keeps.of_grown gr (fun _ _ h => by cases h)
  have hs := k.size
  rw [four_size] at hs
  refine ⟨k.heap ?_ (fun h => h), k.heap ?_ (fun h => h), k.heap ?_ (fun h => h), k.heap ?_ (fun h => h), hs, ?_⟩
  · exact (heap_old_at _ _ _ (by simp <;> omega)).trans ((heap_old_at _ _ _ (by simp <;> omega)).trans ((heap_old_at _ _ _ (by simp)).trans (heap_new_at _ _ _ rfl)))
  · exact (heap_old_at _ _ _ (by simp <;> omega)).trans ((heap_old_at _ _ _ (by simp)).trans (heap_new_at _ _ _ (by simp)))
  · exact (heap_old_at _ _ _ (by simp)).trans (heap_new_at _ _ _ (by simp))
  · exact heap_new_at _ _ _ (by simp)
  · have b0 : Below w.heap.size w (four w K N v) := (((((Below.refl _ _).alloc (Nat.le_refl _) _).alloc (by simp) _).alloc (by simp <;> omega) _).alloc (by simp <;> omega) _)
    exact below_keeps b0 k b0.size (fun _ h => h.elim)

theorem xs_start {w w1 : World} {ks ns bs : List Int} {c : Int} {b0 : Option Addr} {n cp : Nat} (hc : Word c) (gr : (four w (ints ks).toArray (ints ns).toArray (.slice b0 n cp)).grownBy w1 none) (own : Own w1 (.slice (some ⟨w.heap.size + 1 + 1 + 1 + 1, 0, none⟩) 0 n) []) :
    XS w ks ns bs c b0 n cp w1.heap.size (w1.heap.size + 1) 0 0 ((((w1.alloc (.cells #[.slice (some ⟨w.heap.size + 1 + 1 + 1 + 1, 0, none⟩) 0 n] 25)).alloc (.cells (ints ks).toArray 23)).alloc (.cells (ints ns).toArray 29)).alloc (.cells #[.int .u32 c] 24)) := by
  obtain ⟨f0, f1, f2, f3, fs, fb⟩ := four_facts w _ _ _ gr
  have old : ∀ j, j < w1.heap.size → ((((w1.alloc (.cells #[.slice (some ⟨w.heap.size + 1 + 1 + 1 + 1, 0, none⟩) 0 n] 25)).alloc (.cells (ints ks).toArray 23)).alloc (.cells (ints ns).toArray 29)).alloc (.cells #[.int .u32 c] 24)).heap[j]? = w1.heap[j]? := fun j hj =>
    (heap_old_at _ _ _ (by simp <;> omega)).trans ((heap_old_at _ _ _ (by simp <;> omega)).trans ((heap_old_at _ _ _ (by simp <;> omega)).trans (heap_old_at _ _ _ hj)))
  have b4 := (((((Below.refl w1.heap.size w1).alloc (Nat.le_refl _) (.cells #[.slice (some ⟨w.heap.size + 1 + 1 + 1 + 1, 0, none⟩) 0 n] 25)).alloc (by simp) (.cells (ints ks).toArray 23)).alloc (by simp <;> omega) (.cells (ints ns).toArray 29)).alloc (by simp <;> omega) (.cells #[.int .u32 c] 24))
  refine ⟨fb.trans (b4.mono (by omega)), (old _ (by omega)).trans f2, (old _ (by omega)).trans f3, ⟨_, n, ?_, own.keeps (Keeps.of_below b4 (S := fun _ => False)) (fun _ _ h => h), by omega⟩, ⟨?_, ?_, ?_⟩, Nat.zero_le _, by omega, by omega⟩
  · exact (heap_old_at _ _ _ (by simp <;> omega)).trans ((heap_old_at _ _ _ (by simp <;> omega)).trans ((heap_old_at _ _ _ (by simp)).trans (heap_new_at _ _ _ rfl)))
  · exact (heap_old_at _ _ _ (by simp <;> omega)).trans ((heap_old_at _ _ _ (by simp)).trans (heap_new_at _ _ _ (by simp)))
  · exact (heap_old_at _ _ _ (by simp)).trans (heap_new_at _ _ _ (by simp))
  · rw [ctr_zero hc]; exact heap_new_at _ _ _ (by simp)

theorem XS.calm {w : World} {ks ns bs : List Int} {c : Int} {b0 : Option Addr} {n cp Bo Bk i m : Nat} : Calm w.heap.size (XS w ks ns bs c b0 n cp Bo Bk i m) := fun W l o o' h hB hl ho =>
  h.keeps (keeps_putObj W l o') (fun j hj => by omega) (fun j cs t f hj hh => by subst hj; rw [hl] at hh; cases hh; cases ho)
theorem XF.calm {w : World} {ks ns bs : List Int} {c : Int} {n : Nat} : Calm w.heap.size (XF w ks ns bs c n) := fun W l o o' h hB hl ho =>
  h.keeps (keeps_putObj W l o') (fun j hj => by omega) (fun j cs t f hj hh => by subst hj; rw [hl] at hh; cases hh; cases ho)

theorem index_byte (bs : List Int) (hl : bs.length = 64) (k : Nat) (hk : k < 64) (w : World) : (Instr.index 32 (.agg (ints bs).toArray) (.int .i64 k)).run Try.prog w = .ok (.int .u8 (bs.getD k 0)) w := by
  obtain ⟨i0, hi, hz0, hz1, hz2⟩ := info_parts info5
  have hp := part_byte bs k (by omega) w
  have h1 : (0 : Int) ≤ (k : Int) ∧ (k : Int) < 64 := by omega
  simp [Instr.index, asIntOf, run_underlying Try.underlying32, h1.1, show k < 64 from hk, sizeOf, typeInfo, hi, hz1, hp]
end Go.Proofs.Ytmineipjnllopaa
