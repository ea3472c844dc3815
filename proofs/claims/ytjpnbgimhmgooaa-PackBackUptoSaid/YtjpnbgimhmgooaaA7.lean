/- The contracts of the numbers of the reading half (In), and of Raw, Text and Flag. -/
import Derived.Test.YtjpnbgimhmgooaaA6
namespace Go.Proofs.Ytjpnbgimhmgooaa
open Go.RowKit
set_option linter.unusedVariables false

def NumbPost (bs : List Int) (w : World) (e : Ending) (w' : World) : Prop :=
  ∃ x k : Nat, e = .returned (.tuple #[.int .u64 x, .int .i64 k]) ∧ Numb bs x k ∧ w = w'

theorem byte_at {bs : List Int} (h : Bytes bs) {k : Nat} (hk : k < bs.length) : Byte (bs.getD k 0) := by
  have : bs.getD k 0 = bs[k] := by simp [List.getD, List.getElem?_eq_getElem hk]
  rw [this]
  exact h _ (List.getElem_mem hk)

theorem in_byte {w : World} {p : Nat} {a : Option Addr} {n c : Nat} {bad : Bool} {bs : List Int} (h : InAt w p a n c bad bs) (hb : Bytes bs) {k : Nat} (hk : k < n) :
    ∃ ad b, a = some ad ∧ w.cell? (ad.add k) = some (.int .u8 b) ∧ 0 ≤ b ∧ b ≤ 255 ∧ bs.getD k 0 = b := by
  have hl := h.len
  cases a with
  | none => have := h.reads.1 rfl; subst this; simp at hl; omega
  | some ad => exact ⟨ad, _, rfl, h.reads.2 ad rfl k (by omega), (byte_at hb (by omega)).1, (byte_at hb (by omega)).2, rfl⟩

theorem numb_zero {bs : List Int} {w : World} (h : Numb bs 0 0) : NumbPost bs w (.returned (.tuple #[.int .u64 0, .int .i64 0])) w := ⟨0, 0, rfl, h, rfl⟩

theorem number_last {bs : List Int} {w : World} {k x : Nat} {b : Int} (M : Mid bs k x) (hk : k < bs.length) (hk9 : k ≤ 9) (BE : bs.getD k 0 = b) (b0 : 0 ≤ b) (h9 : k = 9 → b ≤ 1) (hb : b < 128) (h0 : b = 0 → k = 0) :
    NumbPost bs w (.returned (.tuple #[.int .u64 (bits BinOp.or IntKind.u64 (x : Int) (IntKind.u64.wrap (IntKind.u64.wrap (bits BinOp.and IntKind.u8 b 127) * 2 ^ (7 * k)))), .int .i64 ((k : Int) + 1)])) w := by
  refine ⟨x + 128 ^ k * (b.toNat % 128), k + 1, ?_, ?_, rfl⟩
  · rw [or_step M.2.2.1 hk9 b0 (by omega) h9]; rfl
  · rw [show b.toNat % 128 = b.toNat by omega]
    exact mid_last M hk hk9 (by omega) (fun e => by have := h9 e; omega) (by omega) (fun e => h0 (by omega))

theorem number_nine {bs : List Int} {w : World} {k x : Nat} {b : Int} (M : Mid bs k x) (h9 : k = 9) (hk : k < bs.length) (BE : bs.getD k 0 = b) (b0 : 0 ≤ b) (hb : b ≤ 1) (h0 : 0 < b) :
    NumbPost bs w (.returned (.tuple #[.int .u64 (bits BinOp.or IntKind.u64 (x : Int) (IntKind.u64.wrap (IntKind.u64.wrap (bits BinOp.and IntKind.u8 b 127) * 9223372036854775808))), .int .i64 10])) w := by
  subst h9
  have := number_last (w := w) M hk (by omega) BE b0 (fun _ => hb) (by omega) (by omega)
  have e : (2 : Int) ^ (7 * 9) = 9223372036854775808 := by decide
  rw [e] at this
  exact this

theorem number_next {bs : List Int} {n k x : Nat} {b : Int} (M : Mid bs k x) (hn : bs.length = n) (hk : k < n) (hk9 : k ≤ 9) (BE : bs.getD k 0 = b) (b255 : b ≤ 255) (h9 : k = 9 → b ≤ 1) (hb : 128 ≤ b) :
    (∃ k_1 x_1 : Nat, Value.int IntKind.i64 ((k : Int) + 1) = Value.int IntKind.i64 (k_1 : Int) ∧
      Value.int IntKind.u64 (bits BinOp.or IntKind.u64 (x : Int) (IntKind.u64.wrap (IntKind.u64.wrap (bits BinOp.and IntKind.u8 b 127) * 2 ^ (7 * k)))) = Value.int IntKind.u64 (x_1 : Int) ∧
        k_1 ≤ n ∧ Hid (Mid bs k_1 x_1)) := by
  refine ⟨k + 1, x + 128 ^ k * (b.toNat % 128), rfl, ?_, by omega, ?_⟩
  · rw [or_step M.2.2.1 hk9 (by omega) b255 h9]
  · rw [show b.toNat % 128 = b.toNat - 128 by omega]
    exact Lib.hid (mid_next M (by omega) hk9 (by omega) (by omega) (by omega))

set_option maxRecDepth 100000 in
set_option maxHeartbeats 4000000 in
theorem inumber_ok {w : World} {p : Nat} {a : Option Addr} {n c : Nat} {bad : Bool} {bs : List Int} (h : InAt w p a n c bad bs) (hb : Bytes bs) (hbig : bs.length ≤ 140737488355328) :
    Calls Try.prog 29 #[.pointer (some ⟨p, 0, none⟩)] w (NumbPost bs w) := by
  have H := Lib.hid h
  have B := Lib.hid hb
  have c1 : w.cell? ⟨p, 0, none⟩ = some (.slice a n c) := by rw [cell_of h.cells]; rfl
  have hn : bs.length = n := h.len
  rw [hn] at hbig
  clear h hb
  have N := Lib.hid hn
  clear hn
  go_enter Try.func29, Try.ntmps29
  go_wp2
  go_loop [4, 12] (fun t i => ∃ k x : Nat, i = .int .i64 k ∧ t = .int .u64 x ∧ k ≤ n ∧ Hid (Mid bs k x)) (fun _ i => n - (intOf i).toNat)
  case atStart => exact ⟨0, 0, rfl, rfl, Nat.zero_le _, Lib.hid (mid_zero bs)⟩
  case round =>
    obtain ⟨k, x, rfl, rfl, hk, hm⟩ := hrel
    by_cases hlt : k < n
    · obtain ⟨ad, b, had, hcell, b0, b255, hbe⟩ := in_byte H.out B.out hlt
      have BE := Lib.hid hbe
      clear hbe
      subst had
      by_cases h9 : 9 < k
      · go_wp2
        go_ret2
        exact numb_zero (mid_far hm.out h9)
      · by_cases h8 : k < 9
        · by_cases hb : 128 ≤ b
          · go_wp2
            exact ⟨number_next hm.out N.out hlt (by omega) BE.out b255 (by omega) hb, by simp [intOf]; omega⟩
          · by_cases hz : b = 0 ∧ 0 < k
            · obtain ⟨hz0, hk0⟩ := hz
              have hz : b ≤ 0 := by omega
              clear hz0
              go_wp2
              go_ret2
              exact numb_zero (mid_zeros hm.out (by rw [N.out]; exact hlt) hk0 (by rw [BE.out]; omega))
            · by_cases hz0 : b ≤ 0
              · have hk0 : k ≤ 0 := by omega
                clear hz
                go_wp2
                go_ret2
                exact number_last (b := 0) hm.out (by rw [N.out]; exact hlt) (by omega) (by rw [BE.out]; omega) (by omega) (by omega) (by omega) (fun _ => by omega)
              · clear hz
                go_wp2
                go_ret2
                exact number_last hm.out (by rw [N.out]; exact hlt) (by omega) BE.out b0 (by omega) (by omega) (fun e => by omega)
        · have hk9 : k ≤ 9 := by omega
          have h9k : 9 ≤ k := by omega
          by_cases hb : 1 < b
          · go_wp2
            go_ret2
            have e : k = 9 := by omega
            have M := hm.out
            have E := BE.out
            subst e
            exact numb_zero (mid_nine M (by rw [N.out]; exact hlt) (by rw [E]; exact hb))
          · by_cases hz : b ≤ 0
            · go_wp2
              go_ret2
              exact numb_zero (mid_zeros hm.out (by rw [N.out]; exact hlt) (by omega) (by rw [BE.out]; omega))
            · go_wp2
              go_ret2
              exact number_nine hm.out (by omega) (by rw [N.out]; exact hlt) BE.out b0 (by omega) (by omega)
    · have e : k = n := by omega
      have N2 := N.out
      go_wp2
      go_ret2
      subst e
      exact numb_zero (mid_end (by rw [N2]; exact hm.out))
end Go.Proofs.Ytjpnbgimhmgooaa
