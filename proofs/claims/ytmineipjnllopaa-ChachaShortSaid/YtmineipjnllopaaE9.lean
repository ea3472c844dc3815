/- Xor at any length. -/
import Derived.Test.YtmineipjnllopaaE7
namespace Go.Proofs.Ytmineipjnllopaa
open Go.RowKit Go.Shelf
set_option linter.unusedVariables false

set_option maxHeartbeats 4000000 in
set_option maxRecDepth 100000 in
theorem xor_zero (K N : Array Value) (c : Int) (b0 : Option Addr) (cp : Nat) (w : World) : Calls Try.prog 12 #[.agg K, .agg N, .int .u32 c, .slice b0 0 cp] w (XorAt w []) := by
  obtain ⟨i0, hi, hz0, hz1, hz2⟩ := info_parts info5
  go_enter Try.func12, Try.ntmps12
  go_wp2_with (refine wpList_make_own _ rfl _ _ 25 rfl 0 5 i0 (.int .u8 0) 1 Try.underlying25 hi hz0 hz1 .i64 .i64 _ 0 rfl rfl rfl (by rw [hz2]; omega) (by unfold maxLen; omega) (Nat.zero_le _) ?_; intro w1 own1 grow1; have FF := Lib.hid (four_facts w K N (.slice b0 0 cp) grow1); have hlt : w.heap.size + 1 + 1 + 1 + 1 ≤ w1.heap.size := FF.out.2.2.2.2.1; have c13 : ∀ o, (w1.alloc o).cell? ⟨w.heap.size + 1 + 1, 0, none⟩ = some (.slice b0 0 cp) := fun o => cell_of ((heap_old_at w1 o _ (by omega)).trans FF.out.2.2.1) 0; have c8 : ∀ o, (w1.alloc o).cell? ⟨w.heap.size + 1 + 1 + 1, 0, none⟩ = some (.slice none 0 0) := fun o => cell_of ((heap_old_at w1 o _ (by omega)).trans FF.out.2.2.2.1) 0; have f8 : ∀ o, (w1.alloc o).frozen? ⟨w.heap.size + 1 + 1 + 1, 0, none⟩ = false := fun o => frozen_of ((heap_old_at w1 o _ (by omega)).trans FF.out.2.2.2.1) 0; clear own1 grow1)
  have hr : (w1.alloc (.cells #[.slice (some ⟨w.heap.size + 1 + 1 + 1 + 1, 0, none⟩) 0 0] 25)).heap[w.heap.size + 1 + 1 + 1]? = some (.cells #[.slice none 0 0] 25 (0, 0)) := (heap_old_at w1 _ _ (by omega)).trans FF.out.2.2.2.1
  have c9 : ((w1.alloc (.cells #[.slice (some ⟨w.heap.size + 1 + 1 + 1 + 1, 0, none⟩) 0 0] 25)).setCell ⟨w.heap.size + 1 + 1 + 1, 0, none⟩ (.slice none 0 0)).cell? ⟨w.heap.size + 1 + 1 + 1, 0, none⟩ = some (.slice none 0 0) := cell_of (heap_setCell_at hr 0 _) 0
  refine bodyPost_ret (v := .slice none 0 0) ?_ rfl ⟨none, 0, 0, rfl, Own.nil _, ?_, fun k hk => by cases hk⟩
  · simp [results, Try.results12, c9, go_sem]
  · exact below_keeps (FF.out.2.2.2.2.2.trans (((Below.refl w1.heap.size w1).alloc (Nat.le_refl _) _).mono (by omega))) (Keeps.setCell _ ⟨w.heap.size + 1 + 1 + 1, 0, none⟩ _ (S := fun j => j = w.heap.size + 1 + 1 + 1) rfl) (by simp; omega) (fun j hj => by omega)

theorem xor_ok (ks ns bs : List Int) (c : Int) (b0 : Option Addr) (n cp : Nat) (w : World) (hk : ks.length = 32) (hn : ns.length = 12) (bk : Bytes ks) (bn : Bytes ns) (hc : Word c)
    (hr : Reads w b0 bs) (hl : bs.length = n) (hb : Bytes bs) (hn2 : n ≤ 65536) :
    Calls Try.prog 12 #[.agg (ints ks).toArray, .agg (ints ns).toArray, .int .u32 c, .slice b0 n cp] w (XorAt w (xorL ks ns c bs n)) := by
  rcases Nat.eq_zero_or_pos n with h0 | h0
  · subst h0
    exact xor_zero _ _ c b0 cp w
  · cases b0 with
    | none =>
      have := hr.1 rfl
      subst this
      simp at hl
      omega
    | some ad => exact xor_pos ks ns bs c ad n cp w hk hn bk bn hc hr hl hb h0 hn2
end Go.Proofs.Ytmineipjnllopaa
