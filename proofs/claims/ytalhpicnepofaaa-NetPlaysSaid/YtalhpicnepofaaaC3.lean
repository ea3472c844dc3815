/- The walk of NetFull. -/
import Derived.Test.YtalhpicnepofaaaC2
namespace Go.Proofs.Ytalhpicnepofaaa
open Go.RowKit
set_option linter.unusedVariables false
set_option linter.unusedSimpArgs false

/-- m letters without bytes. -/
def Bare (l : List Lt) (m : Nat) : Prop := l.length = m ∧ ∀ q ∈ l, q.bs = []
def FullRel (w : World) (o m : Nat) (wr : World) : Prop := ∃ v l, Live w o v l wr ∧ Bare l m
def FullR (w : World) (o : Nat) (t : Value) (wr : World) : Prop := ∃ k : Nat, t = .int .i64 k ∧ k ≤ 200 ∧ Hid (FullRel w o k wr)

theorem Bare.small {l : List Lt} {m : Nat} {W w : World} {o : Nat} {v : Value} (h : Bare l m) (L : Live W o v l w) : ∀ q ∈ l, q.n = 0 := by
  intro q hq
  have h1 := (L.net.lts q hq).len
  rw [h.2 q hq] at h1
  simpa using h1.symm

theorem full_send {W w : World} {o k : Nat} (h : FullRel W o k w) (x : Int) (hk : k < 200) :
    Calls Try.prog 8 #[.pointer (some ⟨o, 0, none⟩), .agg #[.int .i64 x, .int .i64 0, .slice none 0 0]] w fun e w' => e = .returned (.bool true) ∧ FullRel W o (k + 1) w' := by
  obtain ⟨v, l, L, S⟩ := h
  have hl := S.1
  refine (send_ok L.net ⟨x, 0, none, 0, 0, []⟩ (ltOk_plain _ _ _ _) (by omega) (by simp)).mono ?_
  intro e w' he
  unfold SendPost at he
  rw [if_neg (by simp; omega)] at he
  obtain ⟨rfl, q', e1, e2, e3, hn⟩ := he
  obtain ⟨v', L'⟩ := L.post hn
  refine ⟨rfl, v', _, L', by simp; omega, fun q hq => ?_⟩
  rcases List.mem_append.1 hq with h | h
  · exact S.2 q h
  · simp at h; rw [h]; exact e3

theorem full_refuse {W w : World} {o : Nat} (h : FullRel W o 200 w) (x : Int) :
    Calls Try.prog 8 #[.pointer (some ⟨o, 0, none⟩), .agg #[.int .i64 x, .int .i64 0, .slice none 0 0]] w fun e w' => e = .returned (.bool false) ∧ FullRel W o 200 w' := by
  obtain ⟨v, l, L, S⟩ := h
  have hl := S.1
  refine (send_ok L.net ⟨x, 0, none, 0, 0, []⟩ (ltOk_plain _ _ _ _) (by omega) (by simp)).mono ?_
  intro e w' he
  unfold SendPost at he
  rw [if_pos (.inl (by omega))] at he
  obtain ⟨rfl, hn⟩ := he
  obtain ⟨v', L'⟩ := L.post hn
  exact ⟨rfl, v', l, L', S⟩

theorem full_double {W w : World} {o k : Nat} (h : FullRel W o k w) (i : Int) (h0 : 0 < k) (hk : k ≤ 200) :
    Calls Try.prog 12 #[.pointer (some ⟨o, 0, none⟩), .int .i64 i] w fun e w' => e = .returned (.bool (decide (k < 200))) ∧ FullRel W o (if k < 200 then k + 1 else k) w' := by
  obtain ⟨v, l, L, S⟩ := h
  have hl := S.1
  refine (double_ok L.net i (by omega) (fun q hq => by rw [S.small L q hq]; omega)).mono ?_
  rintro e w' (⟨hn, _⟩ | ⟨j, q, hp, hq, ⟨hc, rfl, hn⟩ | ⟨hc, rfl, q', e1, e2, e3, hn⟩⟩)
  · rw [hn] at hl; simp at hl; omega
  · obtain ⟨v', L'⟩ := L.post hn
    have h1 := S.small L q (List.mem_of_getElem? hq)
    have h2 : ¬ k < 200 := by omega
    rw [if_neg h2]
    exact ⟨by simp [h2], v', l, L', S⟩
  · obtain ⟨v', L'⟩ := L.post hn
    have h2 : k < 200 := by omega
    rw [if_pos h2]
    refine ⟨by simp [h2], v', _, L', by simp; omega, fun p hp => ?_⟩
    rcases List.mem_append.1 hp with h | h
    · exact S.2 p h
    · simp at h
      rw [h, e3]
      exact S.2 q (List.mem_of_getElem? hq)

theorem full_take {W w : World} {o k : Nat} (h : FullRel W o (k + 1) w) (i : Int) (hk : k ≤ 200) :
    Calls Try.prog 9 #[.pointer (some ⟨o, 0, none⟩), .int .i64 i] w fun e w' => ∃ (f t : Int) (a : Option Addr) (n c : Nat), e = .returned (.tuple #[.agg #[.int .i64 f, .int .i64 t, .slice a n c], .bool true]) ∧ FullRel W o k w' := by
  obtain ⟨v, l, L, S⟩ := h
  have hl := S.1
  refine (take_ok L.net i (by omega) (fun q hq => by rw [S.small L q hq]; omega)).mono ?_
  rintro e w' (⟨h0, _⟩ | ⟨j, q, a, n, c, hp, hq, rfl, ho, hf, hn⟩)
  · rw [h0] at hl; simp at hl
  · obtain ⟨v', L'⟩ := L.post hn
    have hj := (List.getElem?_eq_some_iff.1 hq).1
    exact ⟨q.f, q.t, a, n, c, rfl, v', _, L', by rw [List.length_eraseIdx_of_lt hj]; omega, fun p hp => S.2 p (List.mem_of_mem_eraseIdx hp)⟩

theorem full_count {W w : World} {o m : Nat} (h : FullRel W o m w) : Calls Try.prog 11 #[.pointer (some ⟨o, 0, none⟩)] w fun e w' => e = .returned (.int .i64 m) ∧ w = w' := by
  obtain ⟨v, l, L, S⟩ := h
  refine (count_ok L.net).mono ?_
  rintro e w' ⟨rfl, rfl⟩
  exact ⟨by rw [S.1], rfl⟩

theorem full_later {W w w' : World} {o m : Nat} (h : FullRel W o m w) (b : Below w.heap.size w w') : FullRel W o m w' := by
  obtain ⟨v, l, L, S⟩ := h
  exact ⟨v, l, L.later b, S⟩

theorem full_below {W w : World} {o m : Nat} (h : FullRel W o m w) : Below W.heap.size W w := by
  obtain ⟨v, l, L, S⟩ := h
  exact L.below

set_option maxRecDepth 100000 in
set_option maxHeartbeats 4000000 in
theorem netFull_walk (a0 : Int) (w0 : (Lit.int .i64 a0).wf = true) (w : World) :
    Calls Try.prog 4 #[.int .i64 a0] w fun e w' => e = .returned (.bool true) ∧ Below w.heap.size w w' := by
  clear w0
  go_enter Try.func4, Try.ntmps4
  go_wp2_with fail
  refine (new_ok w).mono ?_
  rintro e w1 ⟨o, rfl, h1, h2, h3⟩
  have L1 : Hid (FullRel w o 0 w1) := Lib.hid ⟨_, _, Live.made h2 h1 (Below.refl _ w) h3, rfl, fun q hq => by cases hq⟩
  clear h1 h2 h3
  go_wp2_with fail
  refine (awake_ok _).mono ?_
  rintro e w2 ⟨rfl, hb⟩
  have L2 := Lib.hid (full_later L1.out hb)
  clear hb
  go_wp2
  go_loopw [4] (fun t wr => FullR w o t wr) (fun t _ => 200 - (intOf t).toNat)
  case atStart => exact ⟨0, rfl, Nat.zero_le _, L2⟩
  case round =>
    clear L1 L2
    obtain ⟨k, rfl, hkm, K⟩ := hrel
    have hkw : IntKind.i64.wrap ((k : Int) + 1) = (k : Int) + 1 := IntWalk.i64_in _ (by omega)
    by_cases hlt : k < 200
    · go_wp2_with fail
      refine (full_send K.out k (by omega)).mono ?_
      rintro e w2 ⟨rfl, h2⟩
      have K2 := Lib.hid h2
      clear h2
      go_wp2
      go_roundw
      case rel => exact ⟨k + 1, by go_num, by omega, K2⟩
      case measure => simp [intOf]; omega
    · have hkm2 : k = 200 := by omega
      subst hkm2
      clear hkw hlt hkm
      go_wp2_with fail
      refine (full_refuse K.out 0).mono ?_
      rintro e w3 ⟨rfl, h2⟩
      have K2 := Lib.hid h2
      clear h2
      go_wp2_with fail
      refine (full_double K2.out a0 (by omega) (by omega)).mono ?_
      rw [if_neg (by omega), decide_eq_false (by omega)]
      rintro e w4 ⟨rfl, h2⟩
      have K3 := Lib.hid h2
      clear h2
      go_wp2_with fail
      refine (full_count K3.out).mono ?_
      rintro e w5 ⟨rfl, rfl⟩
      go_wp2_with fail
      refine (full_take (k := 199) K3.out a0 (by omega)).mono ?_
      rintro e w6 ⟨f, t, a, n, c, rfl, h2⟩
      have K4 := Lib.hid (full_later h2 ((Below.refl _ w6).alloc (Nat.le_refl _) (.cells #[.int .i64 f, .int .i64 t, .slice a n c] 27)))
      clear h2
      go_wp2_with fail
      refine (full_double K4.out a0 (by omega) (by omega)).mono ?_
      rw [if_pos (by omega), decide_eq_true (by omega)]
      rintro e w7 ⟨rfl, h2⟩
      have K5 := Lib.hid h2
      clear h2
      go_wp2_with fail
      refine (full_count K5.out).mono ?_
      rintro e w8 ⟨rfl, rfl⟩
      go_wp2
      go_ret
      exact ⟨rfl, full_below K5.out⟩
end Go.Proofs.Ytalhpicnepofaaa
