/- The contracts of Raw, Flag, Text and End of the package pack. -/
import Derived.Test.YtjpnbgimhmgooaaA3
namespace Go.Proofs.Ytjpnbgimhmgooaa
open Go.RowKit
set_option linter.unusedVariables false

theorem oraw_ok (o : Nat) (v : Value) (long : Bool) (xs : List Int) (ao : Option Addr) (m c : Nat) (ys : List Int) (w : World) (h : OutAt w o v long xs)
    (hm : ys.length = m) (hnone : ao = none → c = 0) (hr : Reads w ao ys) (hb : xs.length + m ≤ 140737488355328) :
    Calls Try.prog 11 #[.pointer (some ⟨o, 0, none⟩), .slice ao m c] w fun e w' => e = .returned (.tuple #[]) ∧ PutPost w o v long (xs ++ ys) w' := by
  have H := Lib.hid h
  have hm' := Lib.hid hm
  have hr' := Lib.hid hr
  have hno := Lib.hid hnone
  clear h hm hr hnone
  go_enter Try.func11, Try.ntmps11
  go_wp2_with (go_at_call 25; refine (put_ok o v long xs ao m c ys w H.out hm'.out hno.out hr'.out hb).mono ?_; rintro e w1 ⟨rfl, hp1⟩)
  have P1 := Lib.hid hp1
  clear hp1
  go_wp2
  go_end0
  exact ⟨rfl, P1.out⟩

set_option maxRecDepth 100000 in
theorem oflag_ok (o : Nat) (v : Value) (long : Bool) (xs : List Int) (f : Bool) (w : World) (h : OutAt w o v long xs) (hb : xs.length + 1 ≤ 140737488355328) :
    Calls Try.prog 27 #[.pointer (some ⟨o, 0, none⟩), .bool f] w fun e w' => e = .returned (.tuple #[]) ∧ PutPost w o v long (xs ++ [if f then 1 else 0]) w' := by
  have H := Lib.hid h
  clear h
  have O1 := fun z : Int => Lib.hid (H.out.keeps (Keeps.alloc w (.cells #[.int .u8 z] 5) (fun _ => False)) (fun _ _ h => h))
  cases f
  all_goals
    go_enter Try.func27, Try.ntmps27
    go_wp2_with (go_at_call 25; refine (put_ok o v long xs _ 1 1 [_] _ (O1 _).out rfl (fun e => by cases e) (reads_new1 _ _) (by simp; omega)).mono ?_; rintro e w1 ⟨rfl, hp1⟩)
    have P1 := Lib.hid hp1
    clear hp1
    go_wp2
    go_end0
    exact ⟨rfl, put_after H.out (Keeps.refl _ _) (fun k hk => .inl hk) P1.out⟩

/-- What a text adds: too long: a mark. -/
def TextPost (w : World) (o : Nat) (v : Value) (long : Bool) (xs ys : List Int) (w' : World) : Prop :=
  if 4096 < ys.length then PutPost w o v true xs w' else PutPost w o v long (xs ++ (num ys.length ++ ys)) w'

theorem long_end {w : World} {o : Nat} {v : Value} {long : Bool} {xs : List Int} (h : OutAt w o v long xs) : PutPost w o v true xs (w.setCell ⟨o, 1, none⟩ (.bool true)) := by
  refine ⟨v, ⟨?_, ?_, h.apart⟩, Keeps.setCell _ _ _ (S := Foot o v) (.inl rfl), fun k hk => .inl hk⟩
  · rw [heap_setCell_at h.cells]; rfl
  · exact h.own.keeps (Keeps.setCell _ _ _ (S := fun k => k = o) rfl) (fun k hk e => h.apart (e ▸ hk))

set_option maxRecDepth 100000 in
set_option maxHeartbeats 1000000 in
theorem otext_ok (o : Nat) (v : Value) (long : Bool) (xs : List Int) (ao : Option Addr) (m c : Nat) (ys : List Int) (w : World) (h : OutAt w o v long xs)
    (hm : ys.length = m) (hnone : ao = none → c = 0) (hr : Reads w ao ys) (hd : ∀ x, ao = some x → 0 < m → ¬ Foot o v x.block) (hmx : m ≤ 9223372036854775807) (hb : xs.length + 5000 ≤ 140737488355328) :
    Calls Try.prog 26 #[.pointer (some ⟨o, 0, none⟩), .slice ao m c] w fun e w' => e = .returned (.tuple #[]) ∧ TextPost w o v long xs ys w' := by
  have H := Lib.hid h
  have hm' := Lib.hid hm
  have hr' := Lib.hid hr
  have hno := Lib.hid hnone
  have D := Lib.hid hd
  have c1 : w.cell? ⟨o, 1, none⟩ = some (.bool long) := by rw [cell_of h.cells]; rfl
  have f1 : w.frozen? ⟨o, 1, none⟩ = false := frozen_of h.cells 1
  clear h hm hr hnone hd
  by_cases hl : 4096 < m
  · go_enter Try.func26, Try.ntmps26
    go_wp2
    refine bodyPost_ret (results_none rfl _ _ _) rfl ?_
    refine ⟨rfl, ?_⟩
    unfold TextPost
    rw [if_pos (by rw [hm'.out]; exact hl)]
    exact long_end H.out
  · go_enter Try.func26, Try.ntmps26
    go_wp2_with (go_at_call 20; refine (onum_ok o v long xs m w H.out (by omega) (by omega)).mono ?_; rintro e w1 ⟨rfl, hp1⟩)
    obtain ⟨v1, o1, k1, f1⟩ := hp1
    have O1 := Lib.hid o1
    have K1 := Lib.hid k1
    have F1 := Lib.hid f1
    have R1 := Lib.hid (hr'.out.keepsPos k1 (fun x hx hp => D.out x hx (by rw [← hm'.out]; exact hp)))
    have L1 := Lib.hid (num_length_u64 (x := m) (by omega))
    clear o1 k1 f1
    go_wp2_with (go_at_call 11; refine (oraw_ok o v1 long (xs ++ num m) ao m c ys w1 O1.out hm'.out hno.out R1.out (by have := L1.out; simp; omega)).mono ?_; rintro e w2 ⟨rfl, hp2⟩)
    have P2 := Lib.hid hp2
    clear hp2
    go_wp2
    go_end0
    refine ⟨rfl, ?_⟩
    unfold TextPost
    rw [if_neg (by rw [hm'.out]; exact hl), hm'.out, ← List.append_assoc]
    exact PutPost.trans K1.out F1.out P2.out (heap_lt H.out.cells)

/-- What End answers. -/
def EndPost (w : World) (long : Bool) (xs : List Int) (e : Ending) (w' : World) : Prop :=
  if long = true ∨ 16384 < xs.length then e = .returned (.tuple #[.slice none 0 0, .int .i64 3]) ∧ w = w'
  else ∃ a' n' c', e = .returned (.tuple #[.slice a' n' c', .int .i64 0]) ∧ Own w' (.slice a' n' c') xs ∧ Below w.heap.size w w' ∧ ∀ k, (Value.slice a' n' c').ownBlock = some k → w.heap.size ≤ k

set_option maxRecDepth 100000 in
set_option maxHeartbeats 1000000 in
theorem oend_ok (o : Nat) (v : Value) (long : Bool) (xs : List Int) (w : World) (h : OutAt w o v long xs) (hb : xs.length ≤ 140737488355328) :
    Calls Try.prog 12 #[.pointer (some ⟨o, 0, none⟩)] w (EndPost w long xs) := by
  have H := Lib.hid h
  obtain ⟨a, c, rfl, _, hr, hn, _⟩ := h.own.form
  have R := Lib.hid hr
  have c0 : w.cell? ⟨o, 0, none⟩ = some (.slice a xs.length c) := by rw [cell_of h.cells]; rfl
  have c1 : w.cell? ⟨o, 1, none⟩ = some (.bool long) := by rw [cell_of h.cells]; rfl
  clear h hr hn
  cases long
  · by_cases hl : 16384 < xs.length
    · go_enter Try.func12, Try.ntmps12
      go_wp2
      go_ret2
      unfold EndPost
      rw [if_pos (.inr hl)]
      exact ⟨rfl, rfl⟩
    · go_enter Try.func12, Try.ntmps12
      go_wp2_with (go_at_call 23; refine (clone_ok a xs.length c xs w R.out rfl hb).mono ?_; rintro e w1 ⟨a1, n1, c1, rfl, ho, hbl, hf⟩)
      have O1 := Lib.hid ho
      have B1 := Lib.hid hbl
      have F1 := Lib.hid hf
      clear ho hbl hf
      go_wp2
      go_ret2
      unfold EndPost
      rw [if_neg (by rintro (h | h); cases h; exact hl h)]
      exact ⟨a1, n1, c1, rfl, O1.out, B1.out, F1.out⟩
  · go_enter Try.func12, Try.ntmps12
    go_wp2
    go_ret2
    unfold EndPost
    rw [if_pos (.inl rfl)]
    exact ⟨rfl, rfl⟩
end Go.Proofs.Ytjpnbgimhmgooaa
