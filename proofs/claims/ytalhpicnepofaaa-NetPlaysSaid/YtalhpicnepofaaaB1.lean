/- Letters in memory; the contracts of New, Count, long, place, copied. -/
import Derived.Test.YtalhpicnepofaaaA3
import Derived.WalkLawsBesides
namespace Go.Proofs.Ytalhpicnepofaaa
open Go.RowKit
set_option linter.unusedVariables false

/-- A letter: its ends, its bytes as a slice value, and what they are. -/
structure Lt where
  f : Int
  t : Int
  a : Option Addr
  n : Nat
  c : Nat
  bs : List Int

def Lt.vals (q : Lt) : List Value := [.int .i64 q.f, .int .i64 q.t, .slice q.a q.n q.c]
def Lt.agg (q : Lt) : Value := .agg #[.int .i64 q.f, .int .i64 q.t, .slice q.a q.n q.c]
def flat (l : List Lt) : List Value := l.flatMap Lt.vals

theorem flat_length (l : List Lt) : (flat l).length = l.length * 3 := by
  induction l with
  | nil => rfl
  | cons q l ih => simp only [flat, List.flatMap_cons, List.length_append, List.length_cons] at ih ⊢; rw [ih]; simp [Lt.vals]; omega
theorem flat_append (l m : List Lt) : flat (l ++ m) = flat l ++ flat m := by simp [flat]
theorem flat_one (q : Lt) : flat [q] = q.vals := by simp [flat]

/-- A letter's bytes stand in w, away from S. -/
structure LtOk (w : World) (q : Lt) (S : Nat → Prop) : Prop where
  reads : Reads w q.a q.bs
  len : q.bs.length = q.n
  none : q.a = none → q.c = 0
  away : ∀ x, q.a = some x → 0 < q.n → ¬ S x.block

def Foot (o : Nat) (v : Value) : Nat → Prop := fun k => k = o ∨ v.ownBlock = some k

/-- A struct of one slice of letters, at block o, of type T. -/
structure NetAt (w : World) (T : TypeId) (o : Nat) (v : Value) (l : List Lt) : Prop where
  cells : w.heap[o]? = some (.cells #[v] T (0, 0))
  own : w.ownsRow 0 27 3 v l.length (flat l)
  apart : v.ownBlock ≠ some o
  lts : ∀ q ∈ l, LtOk w q (Foot o v)

theorem LtOk.keeps {w w' : World} {S U : Nat → Prop} {q : Lt} (h : LtOk w q S) (k : Keeps w w' U) (hn : ∀ x, q.a = some x → 0 < q.n → ¬ U x.block) : LtOk w' q S := by
  refine ⟨⟨h.reads.1, fun x hx i hi => ?_⟩, h.len, h.none, h.away⟩
  have hc := h.reads.2 x hx i hi
  exact k.cell_some hc (by rw [add_block]; exact hn x hx (by rw [← h.len]; omega))
theorem LtOk.lt {w : World} {S : Nat → Prop} {q : Lt} (h : LtOk w q S) {x : Addr} (hx : q.a = some x) (hp : 0 < q.n) : x.block < w.heap.size := by
  have := World.block_lt_of_cell? w _ (h.reads.2 x hx 0 (by rw [h.len]; exact hp))
  rwa [add_block] at this
theorem LtOk.later {w w' : World} {S : Nat → Prop} {q : Lt} (h : LtOk w q S) (b : Below w.heap.size w w') : LtOk w' q S := h.keeps (Keeps.of_below b (S := fun _ => False)) (fun _ _ _ h => h)

theorem NetAt.keeps {w w' : World} {S : Nat → Prop} {T o : Nat} {v : Value} {l : List Lt} (h : NetAt w T o v l) (k : Keeps w w' S) (hn : ∀ i, Foot o v i → ¬ S i) (hl : ∀ q ∈ l, ∀ x, q.a = some x → 0 < q.n → ¬ S x.block) : NetAt w' T o v l :=
  ⟨k.heap h.cells (hn o (.inl rfl)), k.owns h.own fun i hi => hn i (.inr hi), h.apart, fun q hq => (h.lts q hq).keeps k (hl q hq)⟩
theorem NetAt.later {w w' : World} {T o : Nat} {v : Value} {l : List Lt} (h : NetAt w T o v l) (b : Below w.heap.size w w') : NetAt w' T o v l :=
  h.keeps (Keeps.of_below b (S := fun _ => False)) (fun _ _ h => h) (fun _ _ _ _ _ h => h)

theorem row_form {w : World} {v : Value} {n : Nat} {xs : List Value} (h : w.ownsRow 0 27 3 v n xs) : ∃ a c, v = .slice a n c := by
  rcases h.2 with ⟨rfl, rfl⟩ | ⟨g, cap, cur, rfl, _⟩
  · exact ⟨_, _, rfl⟩
  · exact ⟨_, _, rfl⟩

theorem new_ok (w : World) : Calls Try.prog 7 #[] w fun e w' => ∃ o, e = .returned (.pointer (some ⟨o, 0, none⟩)) ∧ w.heap.size ≤ o ∧ NetAt w' 47 o (.slice none 0 0) [] ∧ Below w.heap.size w w' := by
  go_enter Try.func7, Try.ntmps7
  go_wp2
  go_ret
  exact ⟨w.heap.size, rfl, Nat.le_refl _, ⟨heap_alloc_new w _, World.ownsRow_nil _ 0 27 3, by simp [Value.ownBlock], fun q hq => by cases hq⟩, (Below.refl _ _).alloc (Nat.le_refl _) _⟩

theorem count_ok {w : World} {o : Nat} {v : Value} {l : List Lt} (h : NetAt w 47 o v l) : Calls Try.prog 11 #[.pointer (some ⟨o, 0, none⟩)] w fun e w' => e = .returned (.int .i64 l.length) ∧ w = w' := by
  obtain ⟨a, c, hv⟩ := row_form h.own
  have c0 : w.cell? ⟨o, 0, none⟩ = some (.slice a l.length c) := by rw [cell_of h.cells, hv]; rfl
  clear h hv
  go_enter Try.func11, Try.ntmps11
  go_wp2
  go_ret
  exact ⟨rfl, rfl⟩

theorem long_ok (w : World) (a : Option Addr) (n c : Nat) : Calls Try.prog 21 #[.slice a n c] w fun e w' => e = .returned (.bool (decide ((16384 : Int) < n))) ∧ w = w' := by
  go_enter Try.func21, Try.ntmps21
  go_wp2
  go_ret
  exact ⟨rfl, rfl⟩

/-- A number's place. -/
def placeOf (n : Nat) (i : Int) : Int := if n = 0 then -1 else if i < 0 then 0 else i % n

theorem placeOf_lt {n : Nat} (i : Int) (h : 0 < n) : ∃ k : Nat, placeOf n i = k ∧ k < n := by
  unfold placeOf
  rw [if_neg (by omega)]
  split
  · exact ⟨0, rfl, h⟩
  · have h1 := Int.emod_nonneg i (show (n : Int) ≠ 0 by omega)
    have h2 := Int.emod_lt_of_pos i (show (0 : Int) < n by omega)
    exact ⟨(i % n).toNat, by omega, by omega⟩

theorem place_ok {w : World} {o : Nat} {v : Value} {l : List Lt} (h : NetAt w 47 o v l) (i : Int) (hl : l.length ≤ 9223372036854775807) :
    Calls Try.prog 23 #[.pointer (some ⟨o, 0, none⟩), .int .i64 i] w fun e w' => e = .returned (.int .i64 (placeOf l.length i)) ∧ w = w' := by
  obtain ⟨a, c, hv⟩ := row_form h.own
  have c0 : w.cell? ⟨o, 0, none⟩ = some (.slice a l.length c) := by rw [cell_of h.cells, hv]; rfl
  clear h hv
  generalize l.length = n at *
  by_cases hn : n = 0
  · subst hn
    go_enter Try.func23, Try.ntmps23
    go_wp2
    go_ret
    exact ⟨rfl, rfl⟩
  · have hnb : ((n : Int) == 0) = false := by simp; omega
    have hn1 : (1 : Int) ≤ n := by omega
    by_cases hi : i < 0
    · go_enter Try.func23, Try.ntmps23
      go_wp2
      go_ret
      refine ⟨?_, rfl⟩
      unfold placeOf
      rw [if_neg hn, if_pos hi]
      simp
    · have hi0 : 0 ≤ i := by omega
      go_enter Try.func23, Try.ntmps23
      go_wp2
      go_ret
      refine ⟨?_, rfl⟩
      unfold placeOf
      rw [if_neg hn, if_neg (by omega)]
      rfl

theorem heap_alloc_two_old (w : World) (x y : Obj) : ((w.alloc x).alloc y).heap[w.heap.size]? = some x := by
  rw [Below.heap_alloc _ _ _ (by simp)]; exact heap_alloc_new w x
theorem heap_alloc_two_new (w : World) (x y : Obj) : ((w.alloc x).alloc y).heap[w.heap.size + 1]? = some y := by
  have := heap_alloc_new (w.alloc x) y; simpa using this

theorem Keeps.under {w0 w w1 : World} {S : Nat → Prop} (h : Keeps w w1 S) (hl : w0.heap.size ≤ w.heap.size) (hs : ∀ i, S i → w0.heap.size ≤ i) : Below w0.heap.size w w1 :=
  ⟨h.os, h.tape, h.output, h.size, fun i hi => h.block i (Nat.lt_of_lt_of_le hi hl) (fun e => by have := hs i e; omega)⟩

/-- What copied answers. -/
def CopyPost (w : World) (q : Lt) (e : Ending) (w' : World) : Prop :=
  ∃ a' n' c', e = .returned (Lt.agg ⟨q.f, q.t, a', n', c', q.bs⟩) ∧ Own w' (.slice a' n' c') q.bs ∧ Below w.heap.size w w' ∧ ∀ k, (Value.slice a' n' c').ownBlock = some k → w.heap.size ≤ k

set_option maxRecDepth 100000 in
theorem copied_ok {w : World} {S : Nat → Prop} (q : Lt) (h : LtOk w q S) (hb : q.n ≤ 140737488355328) : Calls Try.prog 22 #[q.agg] w (CopyPost w q) := by
  have H := Lib.hid h
  obtain ⟨f, t, a, n, c, bs⟩ := q
  simp only [Lt.agg] at *
  clear h
  go_enter Try.func22, Try.ntmps22
  go_wp2_with fail
  refine (clone_ok a n c bs _ (H.out.reads.later (((Below.refl _ w).alloc (Nat.le_refl _) _).alloc (by simp) _)) H.out.len hb).mono ?_
  rintro e w1 ⟨a1, n1, c1, rfl, ho, hbl, hf⟩
  have O1 := Lib.hid ho
  have B1 := Lib.hid hbl
  have F1 := Lib.hid hf
  clear ho hbl hf
  have hA := B1.out.block w.heap.size (by simp; omega)
  rw [heap_alloc_two_old] at hA
  have hB := B1.out.block (w.heap.size + 1) (by simp)
  rw [heap_alloc_two_new] at hB
  have p0 := cell_of hA 0
  have p1 := cell_of hA 1
  have p2 := cell_of hA 2
  have f2 := frozen_of hA 2
  have q0 := cell_of hB 0
  have q1 := cell_of hB 1
  have q2 := cell_of hB 2
  have g0 := frozen_of hB 0
  have g1 := frozen_of hB 1
  have g2 := frozen_of hB 2
  clear hA hB
  go_wp2
  refine bodyPost_ret (v := .agg #[.int .i64 f, .int .i64 t, .slice a1 n1 c1]) (by simp [results, Try.results22, go_sem, q0, q1, q2]) rfl ?_
  have S0 := B1.out.size
  have K : Keeps w1 ((((w1.setCell ⟨w.heap.size, 2, none⟩ (.slice a1 n1 c1)).setCell ⟨w.heap.size + 1, 0, none⟩ (.int .i64 f)).setCell ⟨w.heap.size + 1, 1, none⟩ (.int .i64 t)).setCell ⟨w.heap.size + 1, 2, none⟩ (.slice a1 n1 c1)) (fun k => k = w.heap.size ∨ k = w.heap.size + 1) :=
    (((Keeps.setCell _ _ _ (S := fun k => k = w.heap.size ∨ k = w.heap.size + 1) (.inl rfl)).trans (Keeps.setCell _ _ _ (S := fun k => k = w.heap.size ∨ k = w.heap.size + 1) (.inr rfl)) (fun _ _ h => h)).trans (Keeps.setCell _ _ _ (S := fun k => k = w.heap.size ∨ k = w.heap.size + 1) (.inr rfl)) (fun _ _ h => h)).trans (Keeps.setCell _ _ _ (S := fun k => k = w.heap.size ∨ k = w.heap.size + 1) (.inr rfl)) (fun _ _ h => h)
  have B0 : Below w.heap.size w w1 := (((Below.refl _ w).alloc (Nat.le_refl _) _).alloc (by simp) _).trans (B1.out.mono (by simp; omega))
  refine ⟨a1, n1, c1, rfl, O1.out.keeps K ?_, B0.trans (K.under B0.size (fun i hi => by omega)), fun k hk => by have := F1.out k hk; simp at this; omega⟩
  intro k hk e
  have := F1.out k hk
  simp at this
  omega
end Go.Proofs.Ytalhpicnepofaaa
