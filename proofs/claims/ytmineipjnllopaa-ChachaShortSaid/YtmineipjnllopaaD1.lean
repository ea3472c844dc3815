/- Two arrays of bytes that are one are equal. -/
import Derived.Test.YtmineipjnllopaaC3
import Derived.Test.YtmineipjnllopaaB6
import Derived.DeepKeys
import Derived.Laws.StructEq
namespace Go.Proofs.Ytmineipjnllopaa
open Go.RowKit
set_option linter.unusedVariables false

theorem part_byte (bs : List Int) (i : Nat) (hi : i < bs.length) (w : World) : (part 5 (ints bs).toArray i).run Try.prog w = .ok (.int .u8 (bs.getD i 0)) w := by
  have h : (ints bs).toArray[i]? = some (.int .u8 (bs.getD i 0)) := by simp [ints, List.getD, List.getElem?_eq_getElem hi]
  simp [part, isAgg, run_underlying Try.underlying5, h]

theorem eqItems_same (bs : List Int) (w : World) : ∀ is : List Nat, (∀ i ∈ is, i < bs.length) → (Op.eqItems 9999 5 1 (ints bs).toArray (ints bs).toArray is).run Try.prog w = .ok true w
  | [], _ => by simp [Op.eqItems]
  | i :: is, h => by
    have hp := part_byte bs i (h i (by simp)) w
    simp only [Op.eqItems, Nat.mul_one, Sem.run_bind, hp, Result.andThen_ok, run_equalIn_int w 9998 5 .u8 .u8 _ _ Try.underlying5, beq_self_eq_true]
    simp [eqItems_same bs w is (fun j hj => h j (by simp [hj]))]

theorem eql_same (bs : List Int) (hl : bs.length = 64) (w : World) : (binOp .eql 32 (.agg (ints bs).toArray) (.agg (ints bs).toArray)).run Try.prog w = .ok (.bool true) w := by
  obtain ⟨i0, hi, hz0, hz1, hz2⟩ := info_parts info5
  rw [run_eql_struct]
  have h := run_equalIn_array (P := Try.prog) w 9999 (ints bs).toArray (ints bs).toArray Try.underlying32 hi
  rw [show (10000 : Nat) = 9999 + 1 from rfl, h]
  have hs : Try.prog.cellsOf 5 = 1 := by kernel_rfl
  rw [hs, eqItems_same bs w _ (fun i h => by rw [hl]; simpa using h)]
  rfl
end Go.Proofs.Ytmineipjnllopaa
