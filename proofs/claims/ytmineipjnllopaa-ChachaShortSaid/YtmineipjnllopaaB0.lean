/- Whole arrays: loaded, stored, handed back. -/
import Derived.Test.YtmineipjnllopaaA3
import Derived.Deep.MidRow
import Derived.Laws.Rows
namespace Go.Proofs.Ytmineipjnllopaa
open Go.RowKit
set_option linter.unusedVariables false

theorem setCells_keeps (g : Nat) : ∀ (vs : List Value) (o : Nat) (w : World), Keeps w (w.setCells g o vs) (fun k => k = g)
  | [], _, w => Keeps.refl w _
  | v :: r, o, w => (Keeps.setCell w ⟨g, o, none⟩ v (S := fun k => k = g) rfl).trans (setCells_keeps g r (o + 1) _) (fun _ _ h => h)
theorem setCells_heap (g : Nat) (t : TypeId) : ∀ (vs : List Value) (o : Nat) (w : World) (cs : Array Value), w.heap[g]? = some (.cells cs t (0, 0)) → o + vs.length = cs.size →
    (w.setCells g o vs).heap[g]? = some (.cells (cs.toList.take o ++ vs).toArray t (0, 0))
  | [], o, w, cs, h, hl => by
    simp only [List.length_nil, Nat.add_zero] at hl
    have : (cs.toList.take o ++ []).toArray = cs := by
      rw [List.append_nil, List.take_of_length_le (by simp; omega)]
    rw [this]; exact h
  | v :: r, o, w, cs, h, hl => by
    simp only [List.length_cons] at hl
    rw [World.setCells, setCells_heap g t r (o + 1) _ (cs.setIfInBounds o v) (heap_setCell_at h o v) (by simp; omega)]
    have : (cs.setIfInBounds o v).toList.take (o + 1) ++ r = cs.toList.take o ++ v :: r := by
      rw [Array.toList_setIfInBounds, List.take_set, List.take_succ_eq_append_getElem (by simp; omega), List.set_append_right _ _ (by simp; omega)]
      have e : o - (cs.toList.take o).length = 0 := by simp; omega
      rw [e, List.set_cons_zero]
      simp
    rw [this]
theorem setCells_whole {w : World} {g : Nat} {t : TypeId} {cs : Array Value} {vs : List Value} (h : w.heap[g]? = some (.cells cs t (0, 0))) (hl : vs.length = cs.size) :
    (w.setCells g 0 vs).heap[g]? = some (.cells vs.toArray t (0, 0)) := by
  rw [setCells_heap g t vs 0 w cs h (by omega)]
  simp

/-- A whole array into a block that is known whole. -/
theorem wpList_store_row {P : Program} {ops : Array Oper} {rest : List Oper} {op : Oper} {a : Act} {w : World} {Q : Exit → Act → World → Prop} (hgd : op.guard = none) (ty : TypeId) (x y : Operand) (ho : op.op = .store ty x y)
    (g : Nat) (vs : List Value) (hx : a.eval x = .pointer (some ⟨g, 0, none⟩)) (hy : a.eval y = .agg vs.toArray) (t : TypeId) (cs : Array Value)
    (hg : w.heap[g]? = some (.cells cs t (0, 0))) (hl : vs.length = cs.size) (hi : (P.info? ty).map (·.size) = some vs.length) (h1 : ∀ v ∈ vs, v.oneCell' = true)
    (h : ∀ w1, w1.heap[g]? = some (.cells vs.toArray t (0, 0)) → Keeps w w1 (fun k => k = g) → wpList P ops Q rest (a.put op.dst undef) w1) : wpList P ops Q (op :: rest) a w := by
  refine wpList_store_mid hgd ty x y ho g 0 vs.toArray hx hy ?_ (by simpa using hi) (all_oneCell_toArray h1) ?_
  · intro j hj
    simp only [List.size_toArray] at hj
    rw [Nat.zero_add, cell_of hg, frozen_of hg]
    exact ⟨by rw [Array.getElem?_eq_getElem (by omega)]; rfl, rfl⟩
  · exact h _ (setCells_whole hg hl) (setCells_keeps g vs 0 w)
end Go.Proofs.Ytmineipjnllopaa
