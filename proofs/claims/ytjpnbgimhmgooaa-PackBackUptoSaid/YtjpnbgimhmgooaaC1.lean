/- The walk of PackNumbers. -/
import Derived.Test.YtjpnbgimhmgooaaB2
import Derived.Deep.QuietTactic
import Derived.BigQuiet
namespace Go.Proofs.Ytjpnbgimhmgooaa
open Go.RowKit
set_option linter.unusedVariables false

theorem numb_taken {bs : List Int} {x k : Nat} (h : Numb bs x k) (hk : k ≠ 0) : bs.take k = num x := by
  rcases h with ⟨h, _⟩ | ⟨rfl, h, _⟩
  · exact absurd h hk
  · obtain ⟨t, rfl⟩ := h; simp

theorem below_in {w w1 w2 w3 : World} {p : Nat} (b1 : Below w.heap.size w w1) (b2 : Below w1.heap.size w1 w2) (k3 : Keeps w2 w3 (Only p)) (hp : w1.heap.size ≤ p) : Below w.heap.size w w3 := by
  have s1 := b1.size
  have s2 := b2.size
  have k : Below w.heap.size w2 w3 := ⟨k3.os, k3.tape, k3.output, k3.size, fun j hj => k3.block j (by omega) (by unfold Only; omega)⟩
  exact (b1.trans (b2.mono s1)).trans k

theorem ileft_q {w : World} {p : Nat} {a : Option Addr} {n c : Nat} {bad : Bool} {bs : List Int} (h : InAt w p a n c bad bs) (m : Nat) :
    Calls Try.prog 19 #[.pointer (some ⟨p, 0, none⟩)] (w.drewN m) fun e w' => e = .returned (.int .i64 n) ∧ ∃ k, w' = w.drewN k :=
  (ileft_ok (w := w.drewN m) ⟨h.cells, h.reads, h.len, h.cap, h.none, h.apart⟩).mono fun e w' ⟨he, hw⟩ => ⟨he, m, hw.symm⟩

theorem below_draws (B : Nat) (w : World) (m : Nat) : Below B w (w.drewN m) := ⟨rfl, rfl, rfl, Nat.le_refl _, fun _ _ => rfl⟩

theorem upto_run {w : World} (ao : Option Addr) (n c k : Nat) (hk : k ≤ c) : ∃ ao' c', CutOf w ao c 0 ao' c' ∧ ∀ w', (Instr.slice 22 (.slice ao n c) none (some (.int .i64 (k : Int))) none).run Try.prog w' = .ok (.slice ao' k c') w' := by
  refine ⟨_, _, cutOf_sliced (w := w) ao c 0, fun w' => ?_⟩
  rw [run_slice_h (P := Try.prog) w' 22 ao n c elem22 .i64 (k : Int) (by omega) (by omega), elem22', sizeOf5]
  simp [Result.andThen, sliced]

theorem Reads.drewN {w : World} {a : Option Addr} {xs : List Int} (h : Reads w a xs) (m : Nat) : Reads (w.drewN m) a xs := h

set_option maxRecDepth 100000 in
set_option maxHeartbeats 4000000 in
theorem packNumbers_small (a : Option Addr) (n c : Nat) (bs : List Int) (w : World) (hr : Reads w a bs) (hb : Bytes bs) (hl : bs.length = n) (hnc : n ≤ c) (hnone : a = none → c = 0) (hn : n ≤ 40) :
    Calls Try.prog 5 #[.slice a n c] w fun e w' => e = .returned (.bool true) ∧ Below w.heap.size w w' := by
  have R := Lib.hid hr
  have L := Lib.hid hl
  have B := Lib.hid hb
  have NO := Lib.hid hnone
  clear hr hl hb hnone
  go_enter Try.func5, Try.ntmps5
  go_wp2_with fail
  refine (awake_ok w).mono ?_
  rintro e w1 ⟨rfl, b1⟩
  have B1 := Lib.hid b1
  have R1 : Hid (Reads w1 a bs) := Lib.hid (Reads.later R.out b1)
  clear b1
  go_wp2_with fail
  refine (read_ok a n c bs w1 R1.out L.out (by omega)).mono ?_
  rintro e w2 ⟨p, ai, ni, ci, rfl, hp, hai, hin, b2⟩
  have B2 := Lib.hid b2
  have I2 := Lib.hid hin
  have P2 := Lib.hid hp
  clear b2 hin hp hai
  go_wp2_with fail
  refine (inum_ok I2.out B.out (by rw [L.out]; omega) 18446744073709551615 (by decide)).mono ?_
  rintro e w3 ⟨x, k, hnb, he⟩
  have hk : k ≤ n := by rw [← L.out]; exact numb_le hnb
  have hx := numb_lt hnb
  by_cases hk0 : k = 0
  · rw [if_pos (.inr (.inl hk0))] at he
    obtain ⟨rfl, a3, n3, c3, hi3, k3, _⟩ := he
    have hn3 : n3 = n := by rw [← hi3.len, L.out]
    subst hn3
    have I3 := Lib.hid hi3
    have W3 : Hid (Below w.heap.size w w3) := Lib.hid (below_in B1.out B2.out k3 P2.out)
    clear hi3 k3 hx hk0 hk hnb
    go_wp2_with (first | (go_at_call 18; refine (ibad_ok I3.out).mono ?_; rintro e w8 ⟨rfl, rfl⟩) | (go_at_call 19; refine (ileft_ok I3.out).mono ?_; rintro e w8 ⟨rfl, rfl⟩))
    go_ret
    exact ⟨rfl, W3.out⟩
  · rw [if_neg (by rintro (h | h | h); cases h; exact hk0 h; omega)] at he
    obtain ⟨rfl, a3, n3, c3, hi3, k3, _⟩ := he
    have hn3 : n3 = n - k := by rw [← hi3.len, List.length_drop, L.out]
    have I3 := Lib.hid hi3
    have W3 : Hid (Below w.heap.size w w3) := Lib.hid (below_in B1.out B2.out k3 P2.out)
    have NB := Lib.hid hnb
    have HX := Lib.hid hx
    have N3 := Lib.hid hn3
    have hk1 : 0 < k := by omega
    clear hi3 k3 hx hk0 hnb hn3
    go_wp2_with (first | (go_at_call 18; refine (ibad_ok I3.out).mono ?_; rintro e w8 ⟨rfl, rfl⟩) | fail)
    refine (onum_ok w3.heap.size _ false [] x _ (outAt_new w3) HX.out (by simp)).mono ?_
    rintro e w4 ⟨rfl, hp4⟩
    obtain ⟨v4, o4, b4, f4⟩ := putPost_below rfl hp4
    have O4 := Lib.hid o4
    have B4 := Lib.hid b4
    have NL := Lib.hid (num_length_u64 HX.out)
    clear hp4 o4 b4 f4
    go_wp2_with fail
    refine (oend_ok w3.heap.size v4 false _ w4 O4.out (by simp; have := NL.out; omega)).mono ?_
    intro e w5 he
    obtain ⟨ac, nc, cc, rfl, oc, b5, f5⟩ := endPost_ok he (by simp; have := NL.out; omega)
    rw [List.nil_append] at oc
    have tk := numb_taken NB.out (by omega)
    have hlc : nc = k := by rw [← oc.reads.2, ← tk, List.length_take, L.out]; omega
    subst hlc
    have W5 : Hid (Below w.heap.size w w5) := Lib.hid ((W3.out.trans (B4.out.mono W3.out.size)).trans (b5.mono (Nat.le_trans W3.out.size B4.out.size)))
    obtain ⟨ao, co, hcut, hrun⟩ := upto_run (w := w5) a n c nc (by omega)
    have R5 := hcut.2.2.1 bs NO.out (by rw [L.out]; exact hnc) (Reads.later R.out W5.out)
    have s1 : ∀ m, (convert 22 9 (.slice ao nc co)).run Try.prog (w5.drewN m) = .ok (.string (strOfNums (num x))) (w5.drewN m) := fun m => str_ok ((show Reads w5 ao (num x) by rw [← tk]; exact reads_take R5 nc)) oc.reads.2
    have s2 : ∀ m, (convert 22 9 (.slice ac nc cc)).run Try.prog (w5.drewN m) = .ok (.string (strOfNums (num x))) (w5.drewN m) := fun m => str_ok (w := w5.drewN m) oc.reads.1 oc.reads.2
    have I5 : Hid (InAt w5 p a3 n3 c3 false (bs.drop nc)) := Lib.hid ((I3.out.keeps (Keeps.of_below B4.out (S := fun _ => False)) (fun h => h) (fun _ _ h => h)).keeps (Keeps.of_below b5 (S := fun _ => False)) (fun h => h) (fun _ _ h => h))
    have hsum : IntKind.i64.wrap ((nc : Int) + n3) = n := by rw [IntWalk.i64_in _ (by have := N3.out; omega)]; have := N3.out; omega
    clear he oc b5 f5 tk hcut R5
    go_wp2
    go_quiet ((go_at_call 19; exact ileft_q I5.out _))
    go_wp2
    go_ret
    exact ⟨rfl, W5.out.trans (below_draws _ _ _)⟩
end Go.Proofs.Ytjpnbgimhmgooaa
