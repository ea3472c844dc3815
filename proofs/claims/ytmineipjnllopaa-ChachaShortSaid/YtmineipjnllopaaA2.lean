/- Base lemmas of the seat: what a step keeps; bytes that are owned, bytes that are read; append. -/
import Derived.Test.YtmineipjnllopaaA1
import Derived.Maps.AppendAt
namespace Go.Proofs.Ytmineipjnllopaa
open Go.RowKit
set_option linter.unusedVariables false

theorem info5 : (Try.prog.info? 5).map (fun i => (i.zero, i.size, i.bytes)) = some (some (.int .u8 0), 1, 1) := by kernel_rfl

/-- From w to w' nothing that was there has turned, but for the blocks of S. -/
structure Keeps (w w' : World) (S : Nat → Prop) : Prop where
  os : w'.os = w.os
  tape : w'.tape = w.tape
  output : w'.output = w.output
  size : w.heap.size ≤ w'.heap.size
  block : ∀ k, k < w.heap.size → ¬ S k → w'.heap[k]? = w.heap[k]?

theorem Keeps.refl (w : World) (S : Nat → Prop) : Keeps w w S := ⟨rfl, rfl, rfl, Nat.le_refl _, fun _ _ _ => rfl⟩
theorem Keeps.trans {a b c : World} {S T : Nat → Prop} (h : Keeps a b S) (k : Keeps b c T) (hs : ∀ i, i < a.heap.size → T i → S i) : Keeps a c S :=
  ⟨k.os.trans h.os, k.tape.trans h.tape, k.output.trans h.output, Nat.le_trans h.size k.size,
   fun i hi hn => (k.block i (Nat.lt_of_lt_of_le hi h.size) (fun t => hn (hs i hi t))).trans (h.block i hi hn)⟩
theorem Keeps.mono {a b : World} {S T : Nat → Prop} (h : Keeps a b S) (hs : ∀ i, i < a.heap.size → S i → T i) : Keeps a b T :=
  ⟨h.os, h.tape, h.output, h.size, fun i hi hn => h.block i hi (fun t => hn (hs i hi t))⟩
theorem Keeps.of_below {a b : World} {S : Nat → Prop} (h : Below a.heap.size a b) : Keeps a b S :=
  ⟨h.os, h.tape, h.output, h.size, fun i hi _ => h.block i hi⟩
theorem Keeps.below {a b : World} {S : Nat → Prop} (h : Keeps a b S) (hs : ∀ i, i < a.heap.size → ¬ S i) : Below a.heap.size a b :=
  ⟨h.os, h.tape, h.output, h.size, fun i hi => h.block i hi (hs i hi)⟩
theorem Keeps.of_grown {a b : World} {row : Option Nat} {S : Nat → Prop} (h : a.grownBy b row) (hs : ∀ k, k < a.heap.size → row = some k → S k) : Keeps a b S :=
  ⟨h.os, h.tape, h.output, h.size, fun i hi hn => h.block i hi (fun e => hn (hs i hi e.symm))⟩
theorem Keeps.alloc (w : World) (o : Obj) (S : Nat → Prop) : Keeps w (w.alloc o) S :=
  ⟨rfl, rfl, rfl, by simp, fun k hk _ => Below.heap_alloc w o k hk⟩
theorem Keeps.drew (w : World) (S : Nat → Prop) : Keeps w w.drew S := ⟨rfl, rfl, rfl, Nat.le_refl _, fun _ _ _ => rfl⟩
theorem Keeps.setCell (w : World) (a : Addr) (u : Value) {S : Nat → Prop} (hs : S a.block) : Keeps w (w.setCell a u) S :=
  ⟨rfl, rfl, rfl, by simp, fun k hk hn => Below.heap_setCell _ _ _ _ (fun e => hn (e ▸ hs))⟩
theorem Keeps.cell {w w' : World} {S : Nat → Prop} (h : Keeps w w' S) {a : Addr} (hl : a.block < w.heap.size) (hn : ¬ S a.block) : w'.cell? a = w.cell? a :=
  World.cell?_of_block (w := w) (h.block _ hl hn)
theorem Keeps.cell_some {w w' : World} {S : Nat → Prop} (h : Keeps w w' S) {a : Addr} {v : Value} (hc : w.cell? a = some v) (hn : ¬ S a.block) : w'.cell? a = some v :=
  (h.cell (World.block_lt_of_cell? w a hc) hn).trans hc
theorem Keeps.frozen {w w' : World} {S : Nat → Prop} (h : Keeps w w' S) {a : Addr} (hl : a.block < w.heap.size) (hn : ¬ S a.block) : w'.frozen? a = w.frozen? a :=
  World.frozen?_of_block (w := w) (h.block _ hl hn)
theorem Keeps.heap {w w' : World} {S : Nat → Prop} (h : Keeps w w' S) {k : Nat} {x : Obj} (hx : w.heap[k]? = some x) (hn : ¬ S k) : w'.heap[k]? = some x :=
  (h.block k (Array.getElem?_eq_some_iff.1 hx).1 hn).trans hx
theorem Keeps.owns {w w' : World} {S : Nat → Prop} (h : Keeps w w' S) {base e size n : Nat} {v : Value} {xs : List Value} (ho : w.ownsRow base e size v n xs) (hn : ∀ k, v.ownBlock = some k → ¬ S k) :
    w'.ownsRow base e size v n xs := by
  refine ⟨ho.1, ?_⟩
  rcases ho.2 with hh | ⟨g, cap, cur, rfl, hb, hg, r⟩
  · exact .inl hh
  · refine .inr ⟨g, cap, cur, rfl, hb, ?_, r⟩
    rw [h.block g (Array.getElem?_eq_some_iff.1 hg).1 (hn g rfl)]
    exact hg
theorem heap_lt {w : World} {o : Nat} {x : Obj} (h : w.heap[o]? = some x) : o < w.heap.size := (Array.getElem?_eq_some_iff.1 h).1
theorem cell_of {w : World} {o : Nat} {cs : Array Value} {t : TypeId} {f : Nat × Nat} (h : w.heap[o]? = some (.cells cs t f)) (i : Nat) : w.cell? ⟨o, i, none⟩ = cs[i]? := by simp [World.cell?, h]
theorem frozen_of {w : World} {o : Nat} {cs : Array Value} {t : TypeId} (h : w.heap[o]? = some (.cells cs t (0, 0))) (i : Nat) : w.frozen? ⟨o, i, none⟩ = false := by simp [World.frozen?, h]
theorem heap_setCell_at {w : World} {o : Nat} {cs : Array Value} {t : TypeId} {f : Nat × Nat} (h : w.heap[o]? = some (.cells cs t f)) (i : Nat) (u : Value) :
    (w.setCell ⟨o, i, none⟩ u).heap[o]? = some (.cells (cs.setIfInBounds i u) t f) := by
  simp [World.setCell, Array.getElem?_modify, h]
theorem heap_setCell_other {w : World} {o : Nat} {a : Addr} {u : Value} (h : o ≠ a.block) : (w.setCell a u).heap[o]? = w.heap[o]? := by
  simp only [World.setCell, Array.getElem?_modify]
  rw [if_neg (fun e => h e.symm)]

abbrev ints (xs : List Int) : List Value := xs.map (Value.int .u8)
theorem ints_append (xs ys : List Int) : ints (xs ++ ys) = ints xs ++ ints ys := by simp [ints]
theorem ints_get {xs : List Int} {j : Nat} {u : Value} (h : (ints xs)[j]? = some u) : j < xs.length ∧ u = .int .u8 (xs.getD j 0) := by
  have hj : j < xs.length := by have := (List.getElem?_eq_some_iff.1 h).1; simpa using this
  refine ⟨hj, ?_⟩
  simp [ints, List.getElem?_eq_getElem hj] at h
  simp [List.getD, List.getElem?_eq_getElem hj, h]

/-- The bytes xs stand from the address on (no byte: no cell is asked for; nil: no byte). -/
def Reads (w : World) (a : Option Addr) (xs : List Int) : Prop :=
  (a = none → xs = []) ∧ ∀ x, a = some x → ∀ i, i < xs.length → w.cell? (x.add i) = some (.int .u8 (xs.getD i 0))

/-- The value v owns the bytes xs, and no more. -/
def Own (w : World) (v : Value) (xs : List Int) : Prop := w.ownsRow 0 5 1 v xs.length (ints xs)

theorem Own.nil (w : World) : Own w (.slice none 0 0) [] := World.ownsRow_nil w 0 5 1
theorem Own.form {w : World} {v : Value} {xs : List Int} (h : Own w v xs) : ∃ a c, v = .slice a xs.length c ∧ xs.length ≤ c ∧ Reads w a xs ∧ (a = none → c = 0) ∧ ∀ x, a = some x → v.ownBlock = some x.block ∧ x.block < w.heap.size := by
  rcases h.2 with ⟨rfl, h0⟩ | ⟨g, cap, cur, rfl, hb, hg, hn, r⟩
  · have : xs = [] := List.eq_nil_of_length_eq_zero h0
    subst this
    exact ⟨none, 0, rfl, Nat.le_refl _, ⟨fun _ => rfl, fun x hx => by cases hx⟩, fun _ => rfl, fun x hx => by cases hx⟩
  · refine ⟨_, cap, rfl, hn, ⟨(fun e => by cases e), ?_⟩, (fun e => by cases e), ?_⟩
    · intro x hx i hi
      cases hx
      have := World.ownsRow.cells h (g := g) rfl i (.int .u8 (xs.getD i 0)) (by simp [ints, List.getD, List.getElem?_eq_getElem hi])
      exact this
    · intro x hx
      cases hx
      exact ⟨rfl, heap_lt hg⟩
theorem Own.keeps {w w' : World} {S : Nat → Prop} {v : Value} {xs : List Int} (h : Own w v xs) (k : Keeps w w' S) (hn : ∀ k, v.ownBlock = some k → ¬ S k) : Own w' v xs := k.owns h hn
theorem Own.lt {w : World} {v : Value} {xs : List Int} (h : Own w v xs) {k : Nat} (hk : v.ownBlock = some k) : k < w.heap.size := (World.ownsRow.lt h k hk).2

theorem Reads.keeps {w w' : World} {S : Nat → Prop} {a : Option Addr} {xs : List Int} (h : Reads w a xs) (k : Keeps w w' S) (hn : ∀ x, a = some x → ¬ S x.block) : Reads w' a xs := by
  refine ⟨h.1, fun x hx i hi => ?_⟩
  have hc := h.2 x hx i hi
  have hb : (x.add i).block = x.block := by unfold Addr.add; split <;> rfl
  exact k.cell_some hc (by rw [hb]; exact hn x hx)
theorem Reads.keepsPos {w w' : World} {S : Nat → Prop} {a : Option Addr} {xs : List Int} (h : Reads w a xs) (k : Keeps w w' S) (hn : ∀ x, a = some x → 0 < xs.length → ¬ S x.block) : Reads w' a xs := by
  refine ⟨h.1, fun x hx i hi => ?_⟩
  have hc := h.2 x hx i hi
  have hb : (x.add i).block = x.block := by unfold Addr.add; split <;> rfl
  exact k.cell_some hc (by rw [hb]; exact hn x hx (by omega))
theorem Reads.nil (w : World) (a : Option Addr) : Reads w a [] := ⟨fun _ => rfl, fun _ _ i hi => by simp at hi⟩
theorem Reads.news {w : World} {x : Addr} {xs : List Int} (h : Reads w (some x) xs) : ∀ j u, (ints xs)[j]? = some u → w.cell? (x.add j) = some u := by
  intro j u hj
  obtain ⟨hl, rfl⟩ := ints_get hj
  exact h.2 x rfl j hl

/-- v' lies where v lay, or in new memory. -/
def Fresh (w : World) (v v' : Value) : Prop := ∀ k, v'.ownBlock = some k → v.ownBlock = some k ∨ w.heap.size ≤ k
/-- The row of v alone. -/
def Row (v : Value) : Nat → Prop := fun k => v.ownBlock = some k

theorem ints_one (xs : List Int) : ∀ u ∈ ints xs, u.oneCell' = true := by
  intro u hu; obtain ⟨x, _, rfl⟩ := List.mem_map.1 hu; rfl

/-- append(v, x...) at []byte: v owned, x read. -/
theorem app_law {w : World} {ops : Array Oper} {rest : List Oper} {o : Oper} {a : Act} {Q : Exit → Act → World → Prop} (hgd : o.guard = none) (s x : Operand)
    (ho : o.op = .call { callee := .builtin .append, args := #[s, x], argTypes := #[25, 25] })
    (v : Value) (xs : List Int) (hs : a.eval s = v) (hown : Own w v xs) (ao : Option Addr) (m c : Nat) (ys : List Int) (hx : a.eval x = .slice ao m c) (hnone : ao = none → c = 0) (hr : Reads w ao ys) (hm : ys.length = m)
    (hb : xs.length + m ≤ 140737488355328)
    (h : ∀ a' n' c' w', Own w' (.slice a' n' c') (xs ++ ys) → n' = xs.length + m → Keeps w w' (Row v) → Fresh w v (.slice a' n' c') → ((a' = none) → v = .slice none 0 0 ∧ m = 0) →
      wpList Try.prog ops Q rest (a.put o.dst (.slice a' n' c')) w') :
    wpList Try.prog ops Q (o :: rest) a w := by
  obtain ⟨i0, hi, hz0, hz1, hz2⟩ := info_parts info5
  cases ao with
  | some ad =>
    refine wpList_append_own_at w hgd s x 25 ho 0 5 i0 (.int .u8 0) 1 1 Try.underlying25 hi hz0 hz1 hz2 rfl (by decide) v xs.length (ints xs) hs hown ad m c (ints ys) hx (by simp [ints, hm]) hr.news (ints_one ys) (by unfold maxLen; omega) (by omega) (Nat.zero_le _) ?_
    intro v' w' hown' hg hnil hat
    have hown2 : Own w' v' (xs ++ ys) := by unfold Own; rw [ints_append, List.length_append, hm]; exact hown'
    obtain ⟨a', c', hv, _, _, hn0, _⟩ := hown2.form
    rw [List.length_append, hm] at hv
    subst hv
    refine h a' _ c' w' hown2 rfl (Keeps.of_grown hg fun k _ e => e) ?_ ?_
    · intro k hk
      rcases hat with e | e
      · exact .inl (e ▸ hk)
      · rw [e] at hk; cases hk; exact .inr (Nat.le_refl _)
    · intro e
      subst e
      have hc0 := hn0 rfl
      subst hc0
      have hl : xs.length + m = 0 := by
        rcases hown'.2 with ⟨e, h0⟩ | ⟨g, cap, cur, e, _⟩
        · exact h0
        · cases e
      have e0 : (Value.slice none (xs.length + m) 0) = .slice none 0 0 := by rw [hl]
      exact ⟨(hnil.1 e0).1, by omega⟩
  | none =>
    have hy : ys = [] := hr.1 rfl
    subst hy
    have hm0 : m = 0 := by simpa using hm.symm
    subst hm0
    have hc0 := hnone rfl
    subst hc0
    refine wpList_plain hgd fun K hK => ?_
    have hrun := run_append_owned_none (P := Try.prog) w 0 25 o.type 5 i0 1 Try.underlying25 hi v xs.length (ints xs) hown
    obtain ⟨a', c', hv, _, _, hn0, _⟩ := hown.form
    have h' := h a' xs.length c' w (by rw [List.append_nil, ← hv]; exact hown) rfl (Keeps.refl _ _) (fun k hk => .inl (by rw [hv]; exact hk)) (by
      intro e
      subst e
      have hc := hn0 rfl
      subst hc
      rcases hown.2 with ⟨e, h0⟩ | ⟨g, cap, cur, e, _⟩
      · exact ⟨e, rfl⟩
      · rw [e] at hv; cases hv)
    rw [← hv] at h'
    unfold Oper.wp
    simp [execOp, ho, resolve, invoke, builtin, hs, hx, hrun, Result.andThen]
    exact hK _ _ h'

end Go.Proofs.Ytmineipjnllopaa
