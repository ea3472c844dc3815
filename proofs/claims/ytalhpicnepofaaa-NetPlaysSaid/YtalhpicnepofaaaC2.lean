/- The walk of NetOrder. -/
import Derived.Test.YtalhpicnepofaaaC1
import Derived.OpenShut
namespace Go.Proofs.Ytalhpicnepofaaa
open Go.RowKit
set_option linter.unusedVariables false
set_option linter.unusedSimpArgs false

/-- The letters j .. k - 1, by their sender, without bytes. -/
def Sent (j k : Nat) (l : List Lt) : Prop := l.length + j = k ∧ ∀ (i : Nat) (q : Lt), l[i]? = some q → q.f = (j : Int) + i ∧ q.bs = []

theorem Sent.nil (j : Nat) : Sent j j [] := ⟨by simp, fun i q h => by simp at h⟩
theorem Sent.add {j k : Nat} {l : List Lt} {q : Lt} (h : Sent j k l) (hf : q.f = k) (hb : q.bs = []) : Sent j (k + 1) (l ++ [q]) := by
  refine ⟨by simp; have := h.1; omega, fun i p hp => ?_⟩
  by_cases hi : i < l.length
  · rw [List.getElem?_append_left hi] at hp
    exact h.2 i p hp
  · rw [List.getElem?_append_right (by omega)] at hp
    by_cases he : i - l.length = 0
    · rw [he] at hp
      simp at hp
      subst hp
      refine ⟨?_, hb⟩
      rw [hf]
      have := h.1
      omega
    · rw [List.getElem?_eq_none (by simp; omega)] at hp
      cases hp
theorem Sent.small {j k : Nat} {l : List Lt} {W w : World} {o : Nat} {v : Value} (h : Sent j k l) (L : Live W o v l w) : ∀ q ∈ l, q.n ≤ 140737488355328 := by
  intro q hq
  obtain ⟨i, hi⟩ := List.getElem?_of_mem hq
  have h1 := (L.net.lts q hq).len
  rw [(h.2 i q hi).2] at h1
  simp at h1
  omega

def OrdRel (w : World) (o j m : Nat) (wr : World) : Prop := ∃ v l, Live w o v l wr ∧ Sent j m l
def OrdR1 (w : World) (o m : Nat) (t : Value) (wr : World) : Prop := ∃ k : Nat, t = .int .i64 k ∧ k ≤ m ∧ Hid (OrdRel w o 0 k wr)
def OrdR2 (w : World) (o m : Nat) (t : Value) (wr : World) : Prop := ∃ k : Nat, t = .int .i64 k ∧ k ≤ m ∧ Hid (OrdRel w o k m wr)

/-- A letter that bears a number is sent. -/
theorem ord_send {W w : World} {o k : Nat} (h : OrdRel W o 0 k w) (hk : k < 200) :
    Calls Try.prog 8 #[.pointer (some ⟨o, 0, none⟩), .agg #[.int .i64 k, .int .i64 0, .slice none 0 0]] w fun e w' => e = .returned (.bool true) ∧ OrdRel W o 0 (k + 1) w' := by
  obtain ⟨v, l, L, S⟩ := h
  have hl := S.1
  refine (send_ok L.net ⟨k, 0, none, 0, 0, []⟩ (ltOk_plain _ _ _ _) (by omega) (by simp)).mono ?_
  intro e w' he
  unfold SendPost at he
  rw [if_neg (by simp; omega)] at he
  obtain ⟨rfl, q', e1, e2, e3, hn⟩ := he
  obtain ⟨v', L'⟩ := L.post hn
  exact ⟨rfl, v', _, L', S.add e1 e3⟩

theorem ord_take {W w : World} {o k m : Nat} (h : OrdRel W o k m w) (hk : k < m) (hm : m ≤ 200) :
    Calls Try.prog 9 #[.pointer (some ⟨o, 0, none⟩), .int .i64 0] w fun e w' => ∃ (t : Int) (a : Option Addr) (n c : Nat), e = .returned (.tuple #[.agg #[.int .i64 k, .int .i64 t, .slice a n c], .bool true]) ∧ OrdRel W o (k + 1) m w' := by
  obtain ⟨v, l, L, S⟩ := h
  have hl := S.1
  refine (take_ok L.net 0 (by omega) (S.small L)).mono ?_
  rintro e w' (⟨h0, _⟩ | ⟨i, q, a, n, c, hp, hq, rfl, ho, hf, hn⟩)
  · subst h0; simp at hl; omega
  · obtain ⟨v', L'⟩ := L.post hn
    have hi : i = 0 := by
      unfold placeOf at hp
      rw [if_neg (by omega), if_neg (by decide)] at hp
      simp at hp
      omega
    subst hi
    have hqf := (S.2 0 q hq).1
    simp at hqf
    refine ⟨q.t, a, n, c, by simp only [Lt.agg, hqf], v', _, L', ?_⟩
    cases l with
    | nil => simp at hq
    | cons p l =>
      simp only [List.eraseIdx_cons_zero]
      simp only [List.length_cons] at hl
      refine ⟨by omega, fun i q hi => ?_⟩
      have := S.2 (i + 1) q (by simpa using hi)
      refine ⟨?_, this.2⟩
      rw [this.1]
      push_cast
      omega

theorem ord_none {W w : World} {o m : Nat} (h : OrdRel W o m m w) :
    Calls Try.prog 9 #[.pointer (some ⟨o, 0, none⟩), .int .i64 0] w fun e w' => e = .returned (.tuple #[.agg #[.int .i64 0, .int .i64 0, .slice none 0 0], .bool false]) ∧ OrdRel W o m m w' := by
  obtain ⟨v, l, L, S⟩ := h
  have hl := S.1
  have hnil : l = [] := List.eq_nil_of_length_eq_zero (by omega)
  refine (take_ok L.net 0 (by omega) (S.small L)).mono ?_
  rintro e w' (⟨h0, rfl, hp⟩ | ⟨i, q, a, n, c, hp, hq, rfl, ho, hf, hn⟩)
  · obtain ⟨v', L'⟩ := L.post hp
    exact ⟨rfl, v', [], L', by rw [hnil] at S; exact S⟩
  · rw [hnil] at hq; simp at hq

theorem ord_count {W w : World} {o j m : Nat} (h : OrdRel W o j m w) : Calls Try.prog 11 #[.pointer (some ⟨o, 0, none⟩)] w fun e w' => e = .returned (.int .i64 ((m : Int) - j)) ∧ w = w' := by
  obtain ⟨v, l, L, S⟩ := h
  refine (count_ok L.net).mono ?_
  rintro e w' ⟨rfl, rfl⟩
  refine ⟨?_, rfl⟩
  have : (l.length : Int) = (m : Int) - j := by have := S.1; omega
  rw [this]

theorem ord_later {W w w' : World} {o j m : Nat} (h : OrdRel W o j m w) (b : Below w.heap.size w w') : OrdRel W o j m w' := by
  obtain ⟨v, l, L, S⟩ := h
  exact ⟨v, l, L.later b, S⟩

theorem ord_below {W w : World} {o j m : Nat} (h : OrdRel W o j m w) : Below W.heap.size W w := by
  obtain ⟨v, l, L, S⟩ := h
  exact L.below

set_option maxRecDepth 100000 in
set_option maxHeartbeats 4000000 in
theorem netOrder_walk (a0 : Int) (w0 : (Lit.int .u8 a0).wf = true) (w : World) :
    Calls Try.prog 3 #[.int .u8 a0] w fun e w' => e = .returned (.bool true) ∧ Below w.heap.size w w' := by
  obtain ⟨hlo, hhi⟩ := bounds_u8 w0
  obtain ⟨m, hm, hm1⟩ : ∃ m : Nat, a0.tmod 150 = m ∧ m < 150 := by
    have e : a0.tmod 150 = a0 % 150 := Int.tmod_eq_emod_of_nonneg hlo
    have h1 := Int.emod_nonneg a0 (show (150 : Int) ≠ 0 by decide)
    have h2 := Int.emod_lt_of_pos a0 (show (0 : Int) < 150 by decide)
    exact ⟨(a0 % 150).toNat, by rw [e]; omega, by omega⟩
  have hw1 : IntKind.u8.wrap (a0.tmod 150) = m := by rw [hm]; simp [IntKind.wrap, IntKind.signed, IntKind.bits]; omega
  have hw2 : IntKind.i64.wrap (m : Int) = m := IntWalk.i64_in _ (by omega)
  clear w0
  go_enter Try.func3, Try.ntmps3
  go_wp2_with fail
  refine (new_ok w).mono ?_
  rintro e w1 ⟨o, rfl, h1, h2, h3⟩
  have L1 : Hid (OrdRel w o 0 0 w1) := Lib.hid ⟨_, _, Live.made h2 h1 (Below.refl _ w) h3, Sent.nil 0⟩
  clear h1 h2 h3
  go_wp2
  clear hw1 hw2 hm hlo hhi
  go_loopw [5] (fun t wr => OrdR1 w o m t wr) (fun t _ => m - (intOf t).toNat)
  case atStart => exact ⟨0, rfl, Nat.zero_le _, L1⟩
  case round =>
    obtain ⟨k, rfl, hkm, K⟩ := hrel
    have hkw : IntKind.i64.wrap ((k : Int) + 1) = (k : Int) + 1 := IntWalk.i64_in _ (by omega)
    by_cases hlt : k < m
    · go_wp2_with fail
      refine (ord_send K.out (by omega)).mono ?_
      rintro e w2 ⟨rfl, h2⟩
      have K2 := Lib.hid h2
      clear h2
      go_wp2
      go_roundw
      case rel => exact ⟨k + 1, by go_num, by omega, K2⟩
      case measure => simp [intOf]; omega
    · have hkm2 : k = m := by omega
      subst hkm2
      go_wp2
      go_loopw [6] (fun t wr => OrdR2 w o k t wr) (fun t _ => k - (intOf t).toNat)
      case atStart => exact ⟨0, rfl, Nat.zero_le _, K⟩
      case round =>
        clear K hkw hlt hkm
        obtain ⟨j, rfl, hjm, J⟩ := hrel
        have hjw : IntKind.i64.wrap ((j : Int) + 1) = (j : Int) + 1 := IntWalk.i64_in _ (by omega)
        by_cases hlt : j < k
        · go_wp2_with fail
          refine (ord_take J.out hlt (by omega)).mono ?_
          rintro e w2 ⟨t, a, n, c, rfl, h2⟩
          have J2 := Lib.hid (ord_later h2 ((Below.refl _ w2).alloc (Nat.le_refl _) (.cells #[.int .i64 j, .int .i64 t, .slice a n c] 27)))
          clear h2
          go_wp2
          go_roundw
          case rel => exact ⟨j + 1, by go_num, by omega, J2⟩
          case measure => simp [intOf]; omega
        · have hjk : j = k := by omega
          subst hjk
          go_wp2_with fail
          refine (ord_none J.out).mono ?_
          rintro e w2 ⟨rfl, h2⟩
          have J2 := Lib.hid (ord_later h2 ((Below.refl _ w2).alloc (Nat.le_refl _) (.cells #[.int .i64 0, .int .i64 0, .slice none 0 0] 27)))
          clear h2
          go_wp2_with fail
          refine (awake_ok _).mono ?_
          rintro e w3 ⟨rfl, hb⟩
          have J3 := Lib.hid (ord_later J2.out hb)
          clear hb
          go_wp2_with fail
          refine (ord_count J3.out).mono ?_
          rintro e w4 ⟨rfl, rfl⟩
          rw [Int.sub_self]
          go_wp2
          go_ret
          exact ⟨rfl, ord_below J3.out⟩
end Go.Proofs.Ytalhpicnepofaaa
