/- awake. -/
import Derived.Test.YtmineipjnllopaaB5
namespace Go.Proofs.Ytmineipjnllopaa
open Go.RowKit
set_option linter.unusedVariables false

theorem below_new {w w1 w2 : World} {o : Obj} (hb : Below w.heap.size w w1) (k : Keeps (w1.alloc o) w2 (fun k => k = w1.heap.size)) : Below w.heap.size w w2 := by
  have h1 := (Keeps.of_below (S := fun k => w.heap.size ≤ k) hb).trans (Keeps.alloc w1 o (fun k => w.heap.size ≤ k)) (fun i hi h => h)
  exact (h1.trans k (fun i hi h => by have := hb.size; omega)).below (fun i hi h => by omega)

def z32 : List Int := List.replicate 32 0
def z12 : List Int := List.replicate 12 0
theorem awake_val : (blk z32 z12 0).take 2 = [118, 184] := by decide +kernel
theorem z_bytes (n : Nat) : Bytes (List.replicate n 0) := fun y hy => by rw [(List.mem_replicate.1 hy).2]; unfold Byte; omega

theorem awake_block (w : World) : Calls Try.prog 10 #[.agg (ints z32).toArray, .agg (ints z12).toArray, .int .u32 0] w fun e w' =>
    ∃ ys : List Int, e = .returned (.agg (ints (118 :: 184 :: ys)).toArray) ∧ ys.length = 62 ∧ Below w.heap.size w w' := by
  refine (block_ok z32 z12 0 w rfl rfl (z_bytes 32) (z_bytes 12) (by unfold Word; omega)).mono ?_
  rintro e w' ⟨rfl, hb⟩
  have h := awake_val
  have hl := blk_length z32 z12 0
  generalize blk z32 z12 0 = bs at h hl
  match bs, h, hl with
  | a :: b :: ys, h, hl =>
    simp only [List.take_succ_cons, List.take_zero, List.cons.injEq, and_true] at h
    obtain ⟨rfl, rfl⟩ := h
    exact ⟨ys, rfl, by simpa using hl, hb⟩

set_option maxHeartbeats 4000000 in
set_option maxRecDepth 100000 in
theorem awake_ok (w : World) : Calls Try.prog 9 #[] w fun e w' => e = .returned (.bool true) ∧ Below w.heap.size w w' := by
  go_enter Try.func9, Try.ntmps9
  go_wp2_with (first
    | (go_at_call 10; refine (awake_block _).mono ?_; rintro e w1 ⟨ys, rfl, hl, b1⟩; have B1 := Lib.hid b1; have HL : Hid ((ints (118 :: 184 :: ys)).length = 64) := Lib.hid (by simp [ints, hl]); clear b1 hl)
    | (refine wpList_store_row rfl 32 _ _ rfl w1.heap.size (ints (118 :: 184 :: ys)) rfl rfl 32 _ (heap_new_at w1 _ _ rfl) HL.out (by rw [HL.out]; exact size32) (ints_one _) ?_; intro w2 hg2 k2; have c0 : w2.cell? ⟨w1.heap.size, 0, none⟩ = some (.int .u8 118) := cell_of hg2 0; have c1 : w2.cell? ⟨w1.heap.size, 1, none⟩ = some (.int .u8 184) := cell_of hg2 1; have K2 := Lib.hid k2; clear hg2 k2))
  go_ret
  refine ⟨rfl, ?_⟩
  exact below_new B1.out K2.out
end Go.Proofs.Ytmineipjnllopaa
