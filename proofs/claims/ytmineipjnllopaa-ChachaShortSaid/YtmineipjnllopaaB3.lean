/- Four bytes as a word, and back. -/
import Derived.Test.YtmineipjnllopaaB2
namespace Go.Proofs.Ytmineipjnllopaa
open Go.RowKit
set_option linter.unusedVariables false

def lit4 (a b c d : Int) : Int := a + b * 256 + c * 65536 + d * 16777216

theorem or_join (x y : Int) (i : Nat) (h0 : 0 ≤ x) (h1 : x < 2 ^ i) (h2 : 0 ≤ y) (h3 : y % 2 ^ i = 0) (h4 : y < 4294967296) (h5 : x < 4294967296) : bits .or .u64 x y = x + y := by
  have hk : ∀ n : Int, 0 ≤ n → n < 2 ^ 32 → IntKind.u64.wrap n = n := fun n a b => IntWalk.u64_in n ⟨a, by omega⟩
  have := bits_join .u64 32 (by decide) hk i y x h2 h3 (by omega) h0 h1 (by omega)
  have e : bits .or .u64 x y = bits .or .u64 y x := by
    unfold bits
    simp only [BitVec.or_comm]
  rw [e, this, Int.add_comm]

set_option maxHeartbeats 4000000 in
set_option maxRecDepth 100000 in
theorem little_ok (g o cp : Nat) (b0 b1 b2 b3 : Int) (w : World) (h0 : Byte b0) (h1 : Byte b1) (h2 : Byte b2) (h3 : Byte b3)
    (c0 : w.cell? ⟨g, o, none⟩ = some (.int .u8 b0)) (c1 : w.cell? ⟨g, o + 1, none⟩ = some (.int .u8 b1)) (c2 : w.cell? ⟨g, o + 2, none⟩ = some (.int .u8 b2)) (c3 : w.cell? ⟨g, o + 3, none⟩ = some (.int .u8 b3)) :
    Calls Try.prog 21 #[.slice (some ⟨g, o, none⟩) 4 cp] w fun e w' => e = .returned (.int .u64 (lit4 b0 b1 b2 b3)) ∧ w = w' := by
  unfold Byte at h0 h1 h2 h3
  obtain ⟨h00, h01⟩ := h0
  obtain ⟨h10, h11⟩ := h1
  obtain ⟨h20, h21⟩ := h2
  obtain ⟨h30, h31⟩ := h3
  go_enter Try.func21, Try.ntmps21
  go_wp2
  refine wp_loop_rounds 5 ?_
  rw [rounds_succ]
  go_wp2
  rw [rounds_succ]
  go_wp2
  rw [rounds_succ]
  go_wp2
  rw [rounds_succ]
  go_wp2
  rw [rounds_succ]
  go_wp2
  go_ret
  refine ⟨?_, rfl⟩
  show Ending.returned (Value.int _ _) = _
  have e0 : bits .or .u64 0 b0 = b0 := by rw [or_join 0 b0 0 (by omega) (by omega) h00 (by omega) (by omega) (by omega)]; omega
  rw [e0, or_join b0 (b1 * 256) 8 (by omega) (by omega) (by omega) (by omega) (by omega) (by omega), or_join _ (b2 * 65536) 16 (by omega) (by omega) (by omega) (by omega) (by omega) (by omega),
    or_join _ (b3 * 16777216) 24 (by omega) (by omega) (by omega) (by omega) (by omega) (by omega)]
  rfl

def BytesAt (w : World) (T : TypeId) (g : Nat) (ys : List Int) : Prop := w.heap[g]? = some (.cells (ints ys).toArray T (0, 0))
theorem BytesAt.at_ {w : World} {T : TypeId} {g : Nat} {ys : List Int} (h : BytesAt w T g ys) {i : Nat} (hi : i < ys.length) :
    w.cell? ⟨g, i, none⟩ = some (.int .u8 (ys.getD i 0)) ∧ w.frozen? ⟨g, i, none⟩ = false := by
  refine ⟨?_, frozen_of h i⟩
  rw [cell_of h]
  simp [ints, List.getD, List.getElem?_eq_getElem hi]
theorem BytesAt.put {w : World} {T : TypeId} {g : Nat} {ys zs : List Int} (h : BytesAt w T g ys) (i : Nat) (x : Int) (hz : zs = ys.set i x) :
    ∃ w1, w.setCell ⟨g, i, none⟩ (.int .u8 x) = w1 ∧ BytesAt w1 T g zs ∧ Keeps w w1 (fun k => k = g) := by
  refine ⟨_, rfl, ?_, Keeps.setCell w ⟨g, i, none⟩ _ (S := fun k => k = g) rfl⟩
  subst hz
  unfold BytesAt
  rw [heap_setCell_at h]
  simp [ints, List.map_set]

def put4 (ys : List Int) (o : Nat) (x : Int) : List Int := (((ys.set o (x % 256)).set (o + 1) (x / 256 % 256)).set (o + 2) (x / 65536 % 256)).set (o + 3) (x / 16777216)

set_option maxHeartbeats 4000000 in
set_option maxRecDepth 100000 in
theorem put_ok (T g o cp : Nat) (x : Int) (ys : List Int) (w : World) (hx : Word x) (ho : o + 4 ≤ ys.length) (hy : BytesAt w T g ys) :
    Calls Try.prog 17 #[.slice (some ⟨g, o, none⟩) 4 cp, .int .u64 x] w fun e w' => (∃ v, e = .returned v) ∧ BytesAt w' T g (put4 ys o x) ∧ Keeps w w' (fun k => k = g) := by
  obtain ⟨hx0, hx1⟩ := hx
  have HY := Lib.hid hy
  have HL : Hid (o + 4 ≤ ys.length) := Lib.hid ho
  clear hy ho
  go_enter Try.func17, Try.ntmps17
  go_wp2
  refine wp_loop_rounds 5 ?_
  obtain ⟨c0, f0⟩ := HY.out.at_ (i := o) (by have := HL.out; omega)
  rw [rounds_succ]
  go_wp2
  obtain ⟨y1, e2⟩ : ∃ t, t = ys.set (o) (x % 256) := ⟨_, rfl⟩
  obtain ⟨w1, e1, hy1, k1⟩ := HY.out.put (o) (x % 256) e2
  rw [e1]
  have HY := Lib.hid hy1
  have HL : Hid (o + 4 ≤ y1.length) := Lib.hid (by rw [e2, List.length_set]; exact HL.out)
  have KK := Lib.hid k1
  have E1 := Lib.hid e2
  clear e1 e2 hy1 k1 c0 f0
  obtain ⟨c0, f0⟩ := HY.out.at_ (i := o + 1) (by have := HL.out; omega)
  rw [rounds_succ]
  go_wp2
  obtain ⟨y2, e2⟩ : ∃ t, t = y1.set (o + 1) (x / 256 % 256) := ⟨_, rfl⟩
  obtain ⟨w2, e1, hy1, k1⟩ := HY.out.put (o + 1) (x / 256 % 256) e2
  rw [e1]
  have HY := Lib.hid hy1
  have HL : Hid (o + 4 ≤ y2.length) := Lib.hid (by rw [e2, List.length_set]; exact HL.out)
  have KK := Lib.hid (KK.out.trans k1 (fun _ _ h => h))
  have E2 := Lib.hid e2
  clear e1 e2 hy1 k1 c0 f0
  obtain ⟨c0, f0⟩ := HY.out.at_ (i := o + 2) (by have := HL.out; omega)
  rw [rounds_succ]
  go_wp2
  obtain ⟨y3, e2⟩ : ∃ t, t = y2.set (o + 2) (x / 65536 % 256) := ⟨_, rfl⟩
  obtain ⟨w3, e1, hy1, k1⟩ := HY.out.put (o + 2) (x / 65536 % 256) e2
  rw [e1]
  have HY := Lib.hid hy1
  have HL : Hid (o + 4 ≤ y3.length) := Lib.hid (by rw [e2, List.length_set]; exact HL.out)
  have KK := Lib.hid (KK.out.trans k1 (fun _ _ h => h))
  have E3 := Lib.hid e2
  clear e1 e2 hy1 k1 c0 f0
  obtain ⟨c0, f0⟩ := HY.out.at_ (i := o + 3) (by have := HL.out; omega)
  rw [rounds_succ]
  go_wp2
  obtain ⟨y4, e2⟩ : ∃ t, t = y3.set (o + 3) (x / 16777216) := ⟨_, rfl⟩
  obtain ⟨w4, e1, hy1, k1⟩ := HY.out.put (o + 3) (x / 16777216) e2
  rw [e1]
  have HY := Lib.hid hy1
  have HL : Hid (o + 4 ≤ y4.length) := Lib.hid (by rw [e2, List.length_set]; exact HL.out)
  have KK := Lib.hid (KK.out.trans k1 (fun _ _ h => h))
  have E4 := Lib.hid e2
  clear e1 e2 hy1 k1 c0 f0
  rw [rounds_succ]
  go_wp2
  go_end0
  refine ⟨⟨_, rfl⟩, ?_, KK.out⟩
  have := HY.out
  rw [E4.out, E3.out, E2.out, E1.out] at this
  exact this
end Go.Proofs.Ytmineipjnllopaa
