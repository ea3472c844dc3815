/- An argument of type Letter: what its reading says of memory; NetOwn at every letter. -/
import Derived.Test.YtalhpicnepofaaaC5
import Derived.ProofKit
import Derived.OpenShut
import Derived.ChangeOld
import Derived.Deep.Slices
import Derived.Deep.Fields
import Derived.ChangeSame
import Derived.Lib.SmallJoins
namespace Go.Proofs.Ytalhpicnepofaaa
open Go.RowKit Go.ChangeShapes Go.WideShapes Go.Deep
set_option linter.unusedVariables false

theorem letter_struct : ∃ f0 f1 f2 : Field, Try.prog.underlying 27 = some (.struct #[f0, f1, f2]) ∧ f0.type = 3 ∧ f1.type = 3 ∧ f2.type = 25 ∧ oneCellFields Try.prog #[f0, f1, f2] = true := by
  refine ⟨_, _, _, Try.underlying27, rfl, rfl, rfl, by kernel_rfl⟩
theorem cellsOf27 : Try.prog.cellsOf 27 = 3 := by kernel_rfl
theorem cellsOf5 : Try.prog.cellsOf 5 = 1 := by kernel_rfl

theorem row_of {w : World} {H : Type} {enc : TypeId × Value → H} {fuel : Nat} {v : Value} {y : DataW H × List MemPlace} (h : DataW.trod enc Try.prog w 0 (fun _ => true) true fuel 25 [v] = some y) :
    ∃ a n c bs, v = .slice a n c ∧ Reads w a bs ∧ bs.length = n ∧ Bytes bs ∧ n ≤ c ∧ c ≤ maxLen ∧ (a = none → c = 0) := by
  rcases open_ints Try.underlying25 Try.underlying5 cellsOf5 h with ⟨hcs, rfl⟩ | ⟨x, l, c, zs, hcs, _, hl, hm, hz, rfl, hc, hw⟩
  · simp at hcs
    subst hcs
    exact ⟨none, 0, 0, [], rfl, Reads.nil w none, rfl, (fun b hb => by cases hb), Nat.le_refl _, Nat.zero_le _, fun _ => rfl⟩
  · simp at hcs
    subst hcs
    simp at hz
    refine ⟨some x, l, c, zs.take l, rfl, ⟨fun h => (by cases h), ?_⟩, by simp; omega, ?_, hl, hm, fun h => (by cases h)⟩
    · intro y hy i hi
      cases hy
      simp at hi
      rw [hc i (by omega)]
      have hin : i < l := by omega
      simp [List.getD, hin]
    · intro b hb
      exact bounds_u8 (hw b (List.mem_of_mem_take hb))

/-- The argument. -/
theorem letter_arg {w : World} {H : Type} {enc : TypeId × Value → H} {r : Reach} {b0 : Nat} {v : Value} {d : DataW H} {p : List MemPlace} (hv : Value.okWide Try.prog w r b0 27 v) (h : DataW.Trod enc Try.prog w 0 (fun _ => true) true 27 v d p) :
    ∃ (f t : Int) (a : Option Addr) (n c : Nat) (bs : List Int), v = .agg #[.int .i64 f, .int .i64 t, .slice a n c] ∧ Reads w a bs ∧ bs.length = n ∧ Bytes bs ∧ (a = none → c = 0) := by
  obtain ⟨f0, f1, f2, hs, t0, t1, t2, hone⟩ := letter_struct
  obtain ⟨c0, c1, c2, y0, y1, y2, m, rfl, rfl, rfl, r0, r1, r2⟩ := Go.Joins.open_agg3 hs hone cellsOf27 hv h
  rw [t0] at r0
  rw [t1] at r1
  rw [t2] at r2
  obtain ⟨f, hf, _, _⟩ := DataW.trod_int Try.underlying3 r0
  obtain ⟨t, ht, _, _⟩ := DataW.trod_int Try.underlying3 r1
  obtain ⟨a, n, c, bs, he2, hr, hlen, hb, hc, hm, hn⟩ := row_of r2
  simp at hf ht
  subst hf ht he2
  exact ⟨f, t, a, n, c, bs, rfl, hr, hlen, hb, hn⟩

set_option maxRecDepth 100000 in
set_option maxHeartbeats 4000000 in
theorem netOwn_all (f t : Int) (a : Option Addr) (n c : Nat) (bs : List Int) (w : World) (hr : Reads w a bs) (hl : bs.length = n) (hc : a = none → c = 0) :
    Calls Try.prog 5 #[.agg #[.int .i64 f, .int .i64 t, .slice a n c]] w fun e w' => e = .returned (.bool true) ∧ Below w.heap.size w w' := by
  by_cases hn : n ≤ 500
  · exact netOwn_walk f t a n c bs w hr hl hc hn
  · clear hr hl hc
    have hnn : (500 : Int) < n := by omega
    have BA : Hid (Below w.heap.size w (w.alloc (.cells #[.int .i64 f, .int .i64 t, .slice a n c] 27))) := Lib.hid ((Below.refl _ w).alloc (Nat.le_refl _) _)
    go_enter Try.func5, Try.ntmps5
    go_wp2_with fail
    refine (awake_ok _).mono ?_
    rintro e w1 ⟨rfl, b1⟩
    have hA := b1.block w.heap.size (by simp)
    rw [heap_alloc_new] at hA
    have B1 : Hid (Below w.heap.size w w1) := Lib.hid (BA.out.trans (b1.mono BA.out.size))
    have x2 : w1.cell? ⟨w.heap.size, 2, none⟩ = some (.slice a n c) := cell_of hA 2
    clear b1 hA
    go_wp2_with fail
    refine (awake_ok _).mono ?_
    rintro e w2 ⟨rfl, b2⟩
    have B2 := Lib.hid b2
    clear b2
    go_wp2
    go_ret
    exact ⟨rfl, B1.out.trans (B2.out.mono B1.out.size)⟩
end Go.Proofs.Ytalhpicnepofaaa
