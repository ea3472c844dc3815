/- A slice cut at its end, as an operation; the numbers of ChachaShort. -/
import Derived.Test.YtmineipjnllopaaH1
namespace Go.Proofs.Ytmineipjnllopaa
open Go.RowKit Go.Shelf
set_option linter.unusedVariables false

theorem add_zero' (x : Addr) : x.add 0 = x := by cases x; simp [Addr.add]
theorem cut_none (a : Option Addr) (k m s : Nat) : sliced a 0 k m s = .slice a k m := by
  unfold sliced
  rw [Nat.zero_mul, Nat.sub_zero, Nat.sub_zero]
  have e : a.map (·.add 0) = a := by cases a <;> simp [add_zero']
  rw [e, ite_self]
theorem exec_cut {o : Oper} {a : Act} {w : World} (x y : Operand) (ho : o.op = .slice 25 x none (some y) none) (b : Option Addr) (n c k : Nat) (hx : a.eval x = .slice b n c) (hy : a.eval y = .int .i64 k) (hk : k ≤ c) :
    (execOp a.eval o).run Try.prog w = .ok (.value (.slice b k c)) w := by
  have h0 : (0 : Int) ≤ (k : Int) := by omega
  have h2 : (k : Int) ≤ (c : Int) := by omega
  have hu : Try.prog.underlying 25 = some (.slice (Try.prog.elem 25)) := by kernel_rfl
  unfold execOp
  simp only [ho, hx, hy, Option.map_some, Option.map_none, Sem.run_bind, Sem.run_pure, run_sliceAt_slice _ _ _ _ _ _ hu, run_slice_h _ _ _ _ _ hu _ _ h0 h2]
  obtain ⟨i0, hi, _, _, _⟩ := info_parts info5
  have he : Try.prog.elem 25 = 5 := by kernel_rfl
  have hs : (sizeOf (Try.prog.elem 25)).run Try.prog w = .ok i0.size w := by rw [he]; simp [sizeOf, run_typeInfo w hi]
  simp only [hs, Result.andThen, Int.toNat_natCast, cut_none]
/-- The contract under a name: the walk's simp would take it apart. -/
def AwakeAt' (w : World) (e : Ending) (w' : World) : Prop := e = .returned (.bool true) ∧ Below w.heap.size w w'
theorem awake_at' (w : World) : Calls Try.prog 9 #[] w (AwakeAt' w) := awake_ok w
def StreamRowAt' (w : World) (n : Nat) (xs : List Int) (e : Ending) (w' : World) : Prop :=
  ∃ a' c', e = .returned (.tuple #[.slice a' n c', .int .i64 0]) ∧ Own w' (.slice a' n c') xs ∧ Below w.heap.size w w' ∧ ∀ k, (Value.slice a' n c').ownBlock = some k → w.heap.size ≤ k
theorem stream_at' (ks ns : List Int) (c : Int) (n : Nat) (w : World) (hk : ks.length = 32) (hn : ns.length = 12) (bk : Bytes ks) (bn : Bytes ns) (hc : Word c) (hn2 : n ≤ 65536) :
    Calls Try.prog 8 #[.agg (ints ks).toArray, .agg (ints ns).toArray, .int .u32 c, .int .i64 n] w (StreamRowAt' w n (strL ks ns c n)) := stream_row ks ns c n w hk hn bk bn hc hn2
end Go.Proofs.Ytmineipjnllopaa
