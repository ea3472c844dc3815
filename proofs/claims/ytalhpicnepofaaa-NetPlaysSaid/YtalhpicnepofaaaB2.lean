/- The contracts of At and Double's look. -/
import Derived.Test.YtalhpicnepofaaaB1
namespace Go.Proofs.Ytalhpicnepofaaa
open Go.RowKit
set_option linter.unusedVariables false

theorem flat_get : ∀ (l : List Lt) (k j : Nat) (q : Lt), l[k]? = some q → j < 3 → (flat l)[k * 3 + j]? = q.vals[j]?
  | [], k, j, q, h, _ => by simp at h
  | p :: l, 0, j, q, h, hj => by
    simp at h
    subst h
    simp only [flat, List.flatMap_cons, Nat.zero_mul, Nat.zero_add]
    rw [List.getElem?_append_left (by simp [Lt.vals]; omega)]
  | p :: l, k + 1, j, q, h, hj => by
    have := flat_get l k j q (by simpa using h) hj
    simp only [flat, List.flatMap_cons] at this ⊢
    rw [List.getElem?_append_right (by simp [Lt.vals]; omega), ← this]
    congr 1
    simp [Lt.vals]
    omega

/-- The cells of a letter under way. -/
theorem row_cells {w : World} {v : Value} {l : List Lt} {k : Nat} {q : Lt} (h : w.ownsRow 0 27 3 v l.length (flat l)) (hq : l[k]? = some q) :
    ∃ g c, v = .slice (some ⟨g, 0, none⟩) l.length c ∧ g < w.heap.size ∧ w.cell? ⟨g, k * 3, none⟩ = some (.int .i64 q.f) ∧ w.cell? ⟨g, k * 3 + 1, none⟩ = some (.int .i64 q.t) ∧ w.cell? ⟨g, k * 3 + 2, none⟩ = some (.slice q.a q.n q.c) ∧ ∀ i, w.frozen? ⟨g, i, none⟩ = false := by
  have hk : k < l.length := (List.getElem?_eq_some_iff.1 hq).1
  have hc := fun g (hg : v.ownBlock = some g) j u => World.ownsRow.cells h hg j u
  rcases h.2 with ⟨e, h0⟩ | ⟨g, cap, cur, hv, _, hg, _⟩
  · omega
  · have hc' := hc g (by rw [hv]; rfl)
    have e0 := hc' (k * 3 + 0) _ (by rw [flat_get l k 0 q hq (by omega)]; rfl)
    have e1 := hc' (k * 3 + 1) _ (by rw [flat_get l k 1 q hq (by omega)]; rfl)
    have e2 := hc' (k * 3 + 2) _ (by rw [flat_get l k 2 q hq (by omega)]; rfl)
    rw [Addr.add_lit, Nat.zero_add] at e0 e1 e2
    exact ⟨g, cap, hv, heap_lt hg, e0, e1, e2, fun i => frozen_of hg i⟩

def zeroLt : Lt := ⟨0, 0, none, 0, 0, []⟩

/-- What At answers. -/
def AtPost (w : World) (l : List Lt) (i : Int) (e : Ending) (w' : World) : Prop :=
  Below w.heap.size w w' ∧ ((l = [] ∧ e = .returned (.tuple #[zeroLt.agg, .bool false])) ∨
    ∃ (k : Nat) (q : Lt) (a' : Option Addr) (n' c' : Nat), placeOf l.length i = k ∧ l[k]? = some q ∧ e = .returned (.tuple #[Lt.agg ⟨q.f, q.t, a', n', c', q.bs⟩, .bool true]) ∧ Own w' (.slice a' n' c') q.bs ∧ ∀ k, (Value.slice a' n' c').ownBlock = some k → w.heap.size ≤ k)

set_option maxRecDepth 100000 in
set_option maxHeartbeats 2000000 in
theorem at_ok {w : World} {o : Nat} {v : Value} {l : List Lt} (h : NetAt w 47 o v l) (i : Int) (hl : l.length ≤ 300) (hb : ∀ q ∈ l, q.n ≤ 140737488355328) :
    Calls Try.prog 13 #[.pointer (some ⟨o, 0, none⟩), .int .i64 i] w (AtPost w l i) := by
  have H := Lib.hid h
  have HB := Lib.hid hb
  have KA := Keeps.alloc w (.cells #[.int .i64 0, .int .i64 0, .slice none 0 0] 27) (fun _ => False)
  have BA : Hid (Below w.heap.size w (w.alloc (.cells #[.int .i64 0, .int .i64 0, .slice none 0 0] 27))) := Lib.hid (KA.below (fun _ _ h => h))
  have H1 : Hid (NetAt (w.alloc (.cells #[.int .i64 0, .int .i64 0, .slice none 0 0] 27)) 47 o v l) := Lib.hid (h.later BA.out)
  obtain ⟨a, c, hv⟩ := row_form h.own
  have c0 : (w.alloc (.cells #[.int .i64 0, .int .i64 0, .slice none 0 0] 27)).cell? ⟨o, 0, none⟩ = some v := by rw [cell_of H1.out.cells]; rfl
  clear h hb KA
  by_cases h0 : l.length = 0
  · have hp : placeOf l.length i = -1 := by unfold placeOf; rw [if_pos h0]
    have E0 := Lib.hid h0
    subst hv
    clear h0
    go_enter Try.func13, Try.ntmps13
    go_wp2_with fail
    refine (place_ok H1.out i (by omega)).mono ?_
    rintro e w1 ⟨rfl, rfl⟩
    rw [hp]
    clear hp
    go_wp2
    refine bodyPost_ret (v := .tuple #[zeroLt.agg, .bool false]) (by simp [results, Try.results13, go_sem, zeroLt, Lt.agg]) rfl ?_
    exact ⟨BA.out, .inl ⟨List.eq_nil_of_length_eq_zero E0.out, rfl⟩⟩
  · obtain ⟨k, hp, hk⟩ := placeOf_lt i (show 0 < l.length by omega)
    obtain ⟨q, hq⟩ : ∃ q, l[k]? = some q := ⟨_, List.getElem?_eq_getElem hk⟩
    have HP := Lib.hid hp
    have HQ := Lib.hid hq
    obtain ⟨g, cp, hv2, hg, d0, d1, d2, _⟩ := row_cells H1.out.own hq
    rw [hv] at hv2
    cases hv2
    subst hv
    have QO : Hid (LtOk (w.alloc (.cells #[.int .i64 0, .int .i64 0, .slice none 0 0] 27)) q (Foot o (.slice (some ⟨g, 0, none⟩) l.length c))) := Lib.hid (H1.out.lts q (List.mem_of_getElem? hq))
    have QN := HB.out q (List.mem_of_getElem? hq)
    clear h0 hq hg
    go_enter Try.func13, Try.ntmps13
    go_wp2_with fail
    refine (place_ok H1.out i (by omega)).mono ?_
    rintro e w1 ⟨rfl, rfl⟩
    rw [hp]
    clear hp
    go_wp2_with fail
    refine (copied_ok q QO.out QN).mono ?_
    rintro e w1 ⟨a1, n1, c1, rfl, ho, hbl, hf⟩
    have O1 := Lib.hid ho
    have B1 := Lib.hid hbl
    have F1 := Lib.hid hf
    have hB := hbl.block w.heap.size (by simp)
    rw [heap_alloc_new] at hB
    have q0 := cell_of hB 0
    have q1 := cell_of hB 1
    have q2 := cell_of hB 2
    have g0 := frozen_of hB 0
    have g1 := frozen_of hB 1
    have g2 := frozen_of hB 2
    clear ho hbl hf hB
    simp only [Lt.agg]
    go_wp2
    refine bodyPost_ret (v := .tuple #[Lt.agg ⟨q.f, q.t, a1, n1, c1, q.bs⟩, .bool true]) (by simp [results, Try.results13, go_sem, Lt.agg, q0, q1, q2]) rfl ?_
    have K : Keeps w1 (((w1.setCell ⟨w.heap.size, 0, none⟩ (.int .i64 q.f)).setCell ⟨w.heap.size, 1, none⟩ (.int .i64 q.t)).setCell ⟨w.heap.size, 2, none⟩ (.slice a1 n1 c1)) (fun k => k = w.heap.size) :=
      ((Keeps.setCell _ _ _ (S := fun k => k = w.heap.size) rfl).trans (Keeps.setCell _ _ _ (S := fun k => k = w.heap.size) rfl) (fun _ _ h => h)).trans (Keeps.setCell _ _ _ (S := fun k => k = w.heap.size) rfl) (fun _ _ h => h)
    have B0 : Below w.heap.size w w1 := BA.out.trans (B1.out.mono BA.out.size)
    refine ⟨B0.trans (K.under B0.size (fun i hi => by omega)), .inr ⟨k, q, a1, n1, c1, HP.out, HQ.out, rfl, O1.out.keeps K ?_, ?_⟩⟩
    · intro j hj e
      have := F1.out j hj
      simp at this
      omega
    · intro j hj
      have := F1.out j hj
      simp at this
      omega
end Go.Proofs.Ytalhpicnepofaaa
