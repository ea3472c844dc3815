/- Cuts of slices of bytes; the contracts of the reading half (In) of the package pack, but for its numbers. -/
import Derived.Test.YtjpnbgimhmgooaaA4
namespace Go.Proofs.Ytjpnbgimhmgooaa
open Go.RowKit
set_option linter.unusedVariables false

theorem sizeOf5 (w : World) : Sem.run Try.prog (Go.sizeOf 5) w = .ok 1 w := by
  obtain ⟨i0, hi, hz0, hz1, hz2⟩ := info_parts info5
  simp [Go.sizeOf, typeInfo, hi, hz1]

theorem elem22 : Try.prog.underlying 22 = some (.slice (Try.prog.elem 22)) := Try.underlying22
theorem elem22' : Try.prog.elem 22 = 5 := rfl

theorem add_block (x : Addr) (n : Nat) : (x.add n).block = x.block := by unfold Addr.add; split <;> rfl
theorem add_add (x : Addr) (n m : Nat) : (x.add n).add m = x.add (n + m) := by
  unfold Addr.add
  by_cases h : n = 0
  · subst h; simp
  · by_cases h2 : m = 0
    · subst h2; simp [h]
    · rw [if_neg h, if_neg h2, if_neg (by omega)]
      simp [Nat.add_assoc]

/-- What a cut is: the address, where there is one, lies in the same block; what stood there stands there. -/
def CutOf (w : World) (ao : Option Addr) (c k : Nat) (ao' : Option Addr) (c' : Nat) : Prop :=
  (ao' = none → ao = none) ∧ (∀ x, ao' = some x → ∃ y, ao = some y ∧ x.block = y.block) ∧ (∀ xs : List Int, (ao = none → c = 0) → xs.length ≤ c → Reads w ao xs → Reads w ao' (xs.drop k)) ∧ c' = c - k

theorem cutOf_sliced {w : World} (ao : Option Addr) (c k : Nat) : CutOf w ao c k (if c = k then ao else ao.map (·.add (k * 1))) (c - k) := by
  refine ⟨?_, ?_, ?_, rfl⟩
  · split <;> simp
  · intro x hx
    split at hx
    · exact ⟨x, hx, rfl⟩
    · obtain ⟨y, hy, rfl⟩ := Option.map_eq_some_iff.1 hx
      exact ⟨y, hy, add_block _ _⟩
  · intro xs hc0 hc hr
    split
    · rename_i h
      have : xs.drop k = [] := by apply List.drop_eq_nil_of_le; omega
      rw [this]
      exact Reads.nil _ _
    · cases ao with
      | none => have := hr.1 rfl; subst this; simpa using Reads.nil w none
      | some a =>
        refine ⟨fun e => (by cases e), fun x hx i hi => ?_⟩
        cases hx
        rw [add_add, Nat.mul_one, hr.2 a rfl (k + i) (by simp at hi; omega)]
        simp [List.getD, List.getElem?_drop]

/-- x[k:] at []byte. -/
theorem from_law {w : World} {ops : Array Oper} {rest : List Oper} {o : Oper} {a : Act} {Q : Exit → Act → World → Prop} (hgd : o.guard = none) (x lo : Operand)
    (ho : o.op = .slice 22 x (some lo) none none) (ao : Option Addr) (n c k : Nat) (hx : a.eval x = .slice ao n c) (kl : IntKind) (l : Int) (hlo : a.eval lo = .int kl l) (hl : l = k) (hk : k ≤ n)
    (h : ∀ ao' n' c', n' = n - k → CutOf w ao c k ao' c' → wpList Try.prog ops Q rest (a.put o.dst (.slice ao' n' c')) w) :
    wpList Try.prog ops Q (o :: rest) a w := by
  refine wpList_plain hgd fun K hK => ?_
  have hrun : (Instr.slice 22 (.slice ao n c) (some (.int kl l)) none none).run Try.prog w = .ok (.slice (if c = k then ao else ao.map (·.add (k * 1))) (n - k) (c - k)) w := by
    subst hl
    rw [run_slice_l (P := Try.prog) w 22 ao n c elem22 kl (k : Int) (by omega) (by omega), elem22', sizeOf5]
    simp [Result.andThen, sliced]
  have hat : (Instr.sliceAt 22 (.slice ao n c) (some (.int kl l)) none none).run Try.prog w = .ok (.slice (if c = k then ao else ao.map (·.add (k * 1))) (n - k) (c - k)) w := by
    rw [run_sliceAt_slice (P := Try.prog) w 22 _ _ _ _ elem22]; exact hrun
  have h' := hK _ _ (h _ _ _ rfl (cutOf_sliced (w := w) ao c k))
  unfold Oper.wp
  simp only [execOp, ho, Option.map_some, Option.map_none, hx, hlo, Sem.run_bind, hat, Result.andThen_ok, Sem.run_pure]
  exact h'

/-- x[:k] at []byte. -/
theorem upto_law {w : World} {ops : Array Oper} {rest : List Oper} {o : Oper} {a : Act} {Q : Exit → Act → World → Prop} (hgd : o.guard = none) (x hi : Operand)
    (ho : o.op = .slice 22 x none (some hi) none) (ao : Option Addr) (n c k : Nat) (hx : a.eval x = .slice ao n c) (kl : IntKind) (l : Int) (hlo : a.eval hi = .int kl l) (hl : l = k) (hk : k ≤ c)
    (h : ∀ ao' c', CutOf w ao c 0 ao' c' → wpList Try.prog ops Q rest (a.put o.dst (.slice ao' k c')) w) :
    wpList Try.prog ops Q (o :: rest) a w := by
  refine wpList_plain hgd fun K hK => ?_
  have hrun : (Instr.slice 22 (.slice ao n c) none (some (.int kl l)) none).run Try.prog w = .ok (.slice (if c = 0 then ao else ao.map (·.add (0 * 1))) k (c - 0)) w := by
    subst hl
    rw [run_slice_h (P := Try.prog) w 22 ao n c elem22 kl (k : Int) (by omega) (by omega), elem22', sizeOf5]
    simp [Result.andThen, sliced]
  have hat : (Instr.sliceAt 22 (.slice ao n c) none (some (.int kl l)) none).run Try.prog w = .ok (.slice (if c = 0 then ao else ao.map (·.add (0 * 1))) k (c - 0)) w := by
    rw [run_sliceAt_slice (P := Try.prog) w 22 _ _ _ _ elem22]; exact hrun
  have h' := hK _ _ (h _ _ (cutOf_sliced (w := w) ao c 0))
  unfold Oper.wp
  simp only [execOp, ho, Option.map_some, Option.map_none, hx, hlo, Sem.run_bind, hat, Result.andThen_ok, Sem.run_pure]
  exact h'

/-- An In at block p: what is left of it reads bs. -/
structure InAt (w : World) (p : Nat) (a : Option Addr) (n c : Nat) (bad : Bool) (bs : List Int) : Prop where
  cells : w.heap[p]? = some (.cells #[.slice a n c, .bool bad] 55 (0, 0))
  reads : Reads w a bs
  len : bs.length = n
  cap : n ≤ c
  none : a = none → c = 0
  apart : ∀ x, a = some x → x.block ≠ p

def Only (p : Nat) : Nat → Prop := fun k => k = p

theorem InAt.keeps {w w' : World} {S : Nat → Prop} {p : Nat} {a : Option Addr} {n c : Nat} {bad : Bool} {bs : List Int} (h : InAt w p a n c bad bs) (k : Keeps w w' S) (hp : ¬ S p) (hn : ∀ x, a = some x → ¬ S x.block) : InAt w' p a n c bad bs :=
  ⟨k.heap h.cells hp, h.reads.keeps k hn, h.len, h.cap, h.none, h.apart⟩

theorem read_ok (ao : Option Addr) (n c : Nat) (xs : List Int) (w : World) (hr : Reads w ao xs) (hx : xs.length = n) (hbig : n ≤ 140737488355328) :
    Calls Try.prog 9 #[.slice ao n c] w fun e w' => ∃ p a' n' c', e = .returned (.pointer (some ⟨p, 0, none⟩)) ∧ w.heap.size ≤ p ∧ (∀ x, a' = some x → w.heap.size ≤ x.block) ∧ InAt w' p a' n' c' false xs ∧ Below w.heap.size w w' := by
  have R := Lib.hid hr
  have X := Lib.hid hx
  clear hr hx
  go_enter Try.func9, Try.ntmps9
  go_wp2_with (go_at_call 23; refine (clone_ok ao n c xs w R.out X.out hbig).mono ?_; rintro e w1 ⟨a1, n1, c1, rfl, ho, hbl, hf⟩)
  have O1 := Lib.hid ho
  have B1 := Lib.hid hbl
  have F1 := Lib.hid hf
  clear ho hbl hf
  go_wp2
  go_ret
  obtain ⟨a2, c2, hv, hcap, hrd, hnn, hbk⟩ := O1.out.form
  cases hv
  have k1 : Keeps w1 (w1.alloc (.cells #[.slice a1 xs.length c1, .bool false] 55)) (fun _ => False) := Keeps.alloc _ _ _
  refine ⟨w1.heap.size, a1, xs.length, c1, rfl, B1.out.size, ?_, ⟨?_, hrd.keeps k1 (fun _ _ h => h), rfl, hcap, hnn, ?_⟩, B1.out.alloc B1.out.size _⟩
  · intro x hx; exact F1.out _ (hbk x hx).1
  · exact heap_alloc_new w1 _
  · intro x hx e; have := (hbk x hx).2; omega

/-- What is left is set. -/
theorem in_rest {w : World} {p : Nat} {a a' : Option Addr} {n c n' c' k : Nat} {bad : Bool} {bs : List Int} (h : InAt w p a n c bad bs) (hc : CutOf w a c k a' c') (hk : k ≤ n) (hn : n' = n - k) :
    InAt (w.setCell ⟨p, 0, none⟩ (.slice a' n' c')) p a' n' c' bad (bs.drop k) := by
  have ap : ∀ x, a' = some x → x.block ≠ p := fun x hx => by obtain ⟨y, hy, e⟩ := hc.2.1 x hx; rw [e]; exact h.apart y hy
  refine ⟨?_, ?_, ?_, ?_, ?_, ap⟩
  · rw [heap_setCell_at h.cells]; rfl
  · exact (hc.2.2.1 bs h.none (by rw [h.len]; exact h.cap) h.reads).keeps (Keeps.setCell _ _ _ (S := Only p) rfl) (fun x hx => ap x hx)
  · rw [List.length_drop, h.len, hn]
  · rw [hn, hc.2.2.2]; have := h.cap; omega
  · intro e; have := h.none (hc.1 e); rw [hc.2.2.2]; omega

theorem in_bad {w : World} {p : Nat} {a : Option Addr} {n c : Nat} {bad : Bool} {bs : List Int} (h : InAt w p a n c bad bs) : InAt (w.setCell ⟨p, 1, none⟩ (.bool true)) p a n c true bs := by
  refine ⟨?_, h.reads.keeps (Keeps.setCell _ _ _ (S := Only p) rfl) (fun x hx => h.apart x hx), h.len, h.cap, h.none, h.apart⟩
  rw [heap_setCell_at h.cells]; rfl

theorem ibad_ok {w : World} {p : Nat} {a : Option Addr} {n c : Nat} {bad : Bool} {bs : List Int} (h : InAt w p a n c bad bs) :
    Calls Try.prog 18 #[.pointer (some ⟨p, 0, none⟩)] w fun e w' => e = .returned (.bool bad) ∧ w = w' := by
  have c1 : w.cell? ⟨p, 1, none⟩ = some (.bool bad) := by rw [cell_of h.cells]; rfl
  clear h
  go_enter Try.func18, Try.ntmps18
  go_wp2
  go_ret
  exact ⟨rfl, rfl⟩

theorem ileft_ok {w : World} {p : Nat} {a : Option Addr} {n c : Nat} {bad : Bool} {bs : List Int} (h : InAt w p a n c bad bs) :
    Calls Try.prog 19 #[.pointer (some ⟨p, 0, none⟩)] w fun e w' => e = .returned (.int .i64 n) ∧ w = w' := by
  have c1 : w.cell? ⟨p, 0, none⟩ = some (.slice a n c) := by rw [cell_of h.cells]; rfl
  clear h
  go_enter Try.func19, Try.ntmps19
  go_wp2
  go_ret
  exact ⟨rfl, rfl⟩

theorem ifail_ok {w : World} {p : Nat} {a : Option Addr} {n c : Nat} {bad : Bool} {bs : List Int} (h : InAt w p a n c bad bs) :
    Calls Try.prog 24 #[.pointer (some ⟨p, 0, none⟩)] w fun e w' => e = .returned (.tuple #[]) ∧ InAt w' p a n c true bs ∧ Keeps w w' (Only p) := by
  have H := Lib.hid h
  have c1 : w.cell? ⟨p, 1, none⟩ = some (.bool bad) := by rw [cell_of h.cells]; rfl
  have f1 : w.frozen? ⟨p, 1, none⟩ = false := frozen_of h.cells 1
  clear h
  go_enter Try.func24, Try.ntmps24
  go_wp2
  go_end0
  exact ⟨rfl, in_bad H.out, Keeps.setCell _ _ _ rfl⟩

theorem iover_ok {w : World} {p : Nat} {a : Option Addr} {n c : Nat} {bad : Bool} {bs : List Int} (h : InAt w p a n c bad bs) :
    Calls Try.prog 13 #[.pointer (some ⟨p, 0, none⟩)] w fun e w' => e = .returned (.bool (!bad && decide (n = 0))) ∧ w = w' := by
  have c1 : w.cell? ⟨p, 0, none⟩ = some (.slice a n c) := by rw [cell_of h.cells]; rfl
  have c2 : w.cell? ⟨p, 1, none⟩ = some (.bool bad) := by rw [cell_of h.cells]; rfl
  clear h
  cases bad
  · by_cases h0 : n = 0
    · subst h0
      go_enter Try.func13, Try.ntmps13
      go_wp2
      go_ret
      exact ⟨rfl, rfl⟩
    · go_enter Try.func13, Try.ntmps13
      go_wp2
      go_ret
      refine ⟨?_, rfl⟩
      simp [h0]
  · go_enter Try.func13, Try.ntmps13
    go_wp2
    go_ret
    exact ⟨rfl, rfl⟩
end Go.Proofs.Ytjpnbgimhmgooaa
