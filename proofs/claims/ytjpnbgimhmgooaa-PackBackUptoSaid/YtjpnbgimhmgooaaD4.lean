/- The reference's Num. -/
import Derived.Test.YtjpnbgimhmgooaaD3
namespace Go.Proofs.Ytjpnbgimhmgooaa
open Go.RowKit
set_option linter.unusedVariables false

/-- A slice of bytes of the call's own: it owns xs, in memory that was not there in w0; what was there in w0 is as it was. -/
structure Mine (w0 w : World) (v : Value) (xs : List Int) : Prop where
  own : Own w v xs
  fresh : ∀ k, v.ownBlock = some k → w0.heap.size ≤ k
  below : Below w0.heap.size w0 w

theorem Keeps.under {w0 w w1 : World} {S : Nat → Prop} (h : Keeps w w1 S) (hl : w0.heap.size ≤ w.heap.size) (hs : ∀ i, S i → w0.heap.size ≤ i) : Below w0.heap.size w w1 :=
  ⟨h.os, h.tape, h.output, h.size, fun i hi => h.block i (Nat.lt_of_lt_of_le hi hl) (fun e => by have := hs i e; omega)⟩

theorem Mine.app {w0 w w1 : World} {b : Obj} {v v' : Value} {xs : List Int} (h : Mine w0 w v xs) {ys : List Int} (ho : Own w1 v' ys) (hk : Keeps (w.alloc b) w1 (Row v)) (hf : Fresh (w.alloc b) v v') : Mine w0 w1 v' ys := by
  refine ⟨ho, ?_, ?_⟩
  · intro k hk
    rcases hf k hk with e | e
    · exact h.fresh k e
    · have := h.below.size; simp at e; omega
  · exact (h.below.alloc h.below.size b).trans (hk.under (by have := h.below.size; simp; omega) (fun i e => h.fresh i e))

def RNumRel (w : World) (x : Nat) (t0 t3 : Value) (wr : World) : Prop :=
  ∃ (y : Nat) (a : Option Addr) (n c : Nat) (done : List Int), t0 = .int .u64 y ∧ t3 = .slice a n c ∧ y ≤ x ∧ done ++ num y = num x ∧ Mine w wr (.slice a n c) done

theorem rnum_step {w wr w1 : World} {x y n c n' c' : Nat} {a a' : Option Addr} {done : List Int} {b : Obj} (Y : y ≤ x) (D : done ++ num y = num x) (hlt : 128 ≤ y) (M : Mine w wr (.slice a n c) done)
    (ho : Own w1 (.slice a' n' c') (done ++ [(y : Int) % 128 + 128])) (hk : Keeps (wr.alloc b) w1 (Row (.slice a n c))) (hf : Fresh (wr.alloc b) (.slice a n c) (.slice a' n' c')) :
    RNumRel w x (.int .u64 ((y : Int) / 128)) (.slice a' n' c') w1 := by
  refine ⟨y / 128, a', n', c', done ++ [(y : Int) % 128 + 128], by congr 1, rfl, by omega, ?_, M.app ho hk hf⟩
  rw [← D, num_ge hlt]
  simp

def RNumPost (w : World) (x : Nat) (e : Ending) (w' : World) : Prop := ∃ a n c, e = .returned (.slice a n c) ∧ Mine w w' (.slice a n c) (num x)

set_option maxRecDepth 100000 in
set_option maxHeartbeats 2000000 in
theorem rnum_ok (x : Nat) (w : World) (hx : x < 18446744073709551616) : Calls Try.prog 28 #[.int .u64 x] w (RNumPost w x) := by
  have hlen := Lib.hid (num_length_u64 hx)
  have HX := Lib.hid hx
  clear hx
  go_enter Try.func28, Try.ntmps28
  go_wp2
  go_loopw [0, 3] (fun t0 t3 wr => RNumRel w x t0 t3 wr) (fun t0 _ _ => (intOf t0).toNat)
  case atStart => exact ⟨x, none, 0, 0, [], rfl, rfl, Nat.le_refl _, rfl, Own.nil _, (fun k hk => by cases hk), Below.refl _ _⟩
  case round =>
    obtain ⟨y, a, n, c, done, rfl, rfl, hyx, hd, hm⟩ := hrel
    have D := Lib.hid hd
    have M := Lib.hid hm
    have Y := Lib.hid hyx
    have hw : IntKind.u64.wrap ((y : Int) / 128) = (y : Int) / 128 := IntWalk.u64_in _ (by have := HX.out; omega)
    have hn : n = done.length := hm.own.reads.2.symm
    have N := Lib.hid hn
    have O1 := fun z : Int => Lib.hid (hm.own.keeps (Keeps.alloc wr (.cells #[.int .u8 z] 5) (fun _ => False)) (fun _ _ h => h))
    clear hd hm hyx hn
    by_cases hlt : 128 ≤ y
    · have hl := done_length D.out hlen.out hlt
      go_wp2_with (at_builtin; refine app_law rfl _ _ rfl _ done rfl (O1 _).out _ 1 1 [_] rfl (fun e => by cases e) (reads_new1 _ _) rfl (by omega) ?_)
      intro a' n' c' w1 hown hn' hk hf _
      have K := Lib.hid hown
      have G := Lib.hid hk
      have F := Lib.hid hf
      clear hown hn' hk hf O1
      go_wp2
      go_roundw
      case rel => exact rnum_step Y.out D.out hlt M.out K.out G.out F.out
      case measure => simp [intOf]; omega
    · have hl := done_length0 D.out hlen.out
      go_wp2_with (at_builtin; refine app_law rfl _ _ rfl _ done rfl (O1 _).out _ 1 1 [_] rfl (fun e => by cases e) (reads_new1 _ _) rfl (by omega) ?_)
      intro a' n' c' w1 hown hn' hk hf _
      have K := Lib.hid hown
      have G := Lib.hid hk
      have F := Lib.hid hf
      clear hown hn' hk hf O1
      go_wp2
      go_ret
      have e := D.out
      rw [num_lt (by omega)] at e
      exact ⟨a', n', c', rfl, by rw [← e]; exact M.out.app K.out G.out F.out⟩
end Go.Proofs.Ytjpnbgimhmgooaa
