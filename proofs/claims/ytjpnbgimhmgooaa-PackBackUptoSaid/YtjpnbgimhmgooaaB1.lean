/- The contract of awake: it answers true, and nothing that was there has turned. -/
import Derived.Test.YtjpnbgimhmgooaaA9
namespace Go.Proofs.Ytjpnbgimhmgooaa
open Go.RowKit
set_option linter.unusedVariables false

theorem num300 : num 300 = [172, 2] := by rw [num_ge (by decide), num_lt (by decide)]; rfl

theorem outAt_new (w : World) : OutAt (w.alloc (.cells #[.slice none 0 0, .bool false] 30)) w.heap.size (.slice none 0 0) false [] :=
  ⟨heap_alloc_new w _, Own.nil _, by simp [Value.ownBlock]⟩

theorem putPost_below {w w1 : World} {v : Value} {b : Obj} {long : Bool} {xs : List Int} (hv : v.ownBlock = none) (h : PutPost (w.alloc b) w.heap.size v long xs w1) :
    ∃ v', OutAt w1 w.heap.size v' long xs ∧ Below w.heap.size w w1 ∧ (∀ k, v'.ownBlock = some k → w.heap.size ≤ k) := by
  obtain ⟨v', o, k, f⟩ := h
  refine ⟨v', o, ?_, ?_⟩
  · refine (((Keeps.alloc w b (fun _ => False)).trans k ?_)).below (fun _ _ h => h)
    rintro i hi (h | h)
    · omega
    · rw [hv] at h; cases h
  · intro k hk
    rcases f k hk with e | e
    · rw [hv] at e; cases e
    · simp at e; omega

theorem endPost_ok {w w' : World} {xs : List Int} {e : Ending} (h : EndPost w false xs e w') (hl : xs.length ≤ 16384) :
    ∃ a' n' c', e = .returned (.tuple #[.slice a' n' c', .int .i64 0]) ∧ Own w' (.slice a' n' c') xs ∧ Below w.heap.size w w' ∧ (∀ k, (Value.slice a' n' c').ownBlock = some k → w.heap.size ≤ k) := by
  unfold EndPost at h
  rw [if_neg (by rintro (h | h); cases h; omega)] at h
  exact h

set_option maxRecDepth 100000 in
set_option maxHeartbeats 2000000 in
theorem awake_ok (w : World) : Calls Try.prog 8 #[] w fun e w' => e = .returned (.bool true) ∧ Below w.heap.size w w' := by
  go_enter Try.func8, Try.ntmps8
  go_wp2_with fail
  refine (onum_ok w.heap.size _ false [] 300 _ (outAt_new w) (by decide) (by simp)).mono ?_
  rintro e w1 ⟨rfl, hp⟩
  obtain ⟨v1, o1, b1, f1⟩ := putPost_below rfl hp
  have O1 := Lib.hid o1
  have B1 := Lib.hid b1
  clear o1 b1 f1 hp
  go_wp2_with fail
  refine (oend_ok w.heap.size v1 false _ w1 O1.out (by rw [num300]; simp)).mono ?_
  intro e w2 he
  obtain ⟨a, n, c, rfl, ow, b2, f2⟩ := endPost_ok he (by rw [num300]; simp)
  rw [num300] at ow
  obtain ⟨a', c', hv, _, hr, _, _⟩ := ow.form
  cases hv
  cases a with
  | none => have := hr.1 rfl; simp at this
  | some ad =>
    have h0 : w2.cell? ad = some (.int .u8 172) := hr.2 ad rfl 0 (by simp)
    have B2 := Lib.hid b2
    clear he ow b2 f2 hr
    go_wp2
    go_ret
    exact ⟨rfl, B1.out.trans (B2.out.mono B1.out.size)⟩
end Go.Proofs.Ytjpnbgimhmgooaa
