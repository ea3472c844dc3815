/- The grid; the contract of quarter. -/
import Derived.Test.YtmineipjnllopaaA1
import Derived.Test.YtmineipjnllopaaA3
import Derived.StillTailTactics
import Derived.LoopN
import Derived.Deep.RegionWith
import Derived.Deep.RegionHeld3
import Derived.Deep.DrawnRows
namespace Go.Proofs.Ytmineipjnllopaa
open Go.RowKit
set_option linter.unusedVariables false

abbrev words (s : List Int) : Array Value := (s.map (Value.int .u32)).toArray
def GridAt (w : World) (T : TypeId) (g : Nat) (s : List Int) : Prop := w.heap[g]? = some (.cells (words s) T (0, 0))
def Words (s : List Int) : Prop := s.length = 16 ∧ ∀ x ∈ s, Word x

theorem GridAt.cell {w : World} {T : TypeId} {g : Nat} {s : List Int} (h : GridAt w T g s) {i : Nat} (hi : i < s.length) : w.cell? ⟨g, i, none⟩ = some (.int .u32 (s.getD i 0)) := by
  rw [cell_of h]
  simp [words, List.getD, List.getElem?_eq_getElem hi]
theorem GridAt.store {w : World} {T : TypeId} {g : Nat} {s : List Int} (h : GridAt w T g s) (i : Nat) (x : Int) : GridAt (w.setCell ⟨g, i, none⟩ (.int .u32 x)) T g (s.set i x) := by
  unfold GridAt
  rw [heap_setCell_at h]
  simp [words, List.map_set]
theorem Words.at {s : List Int} (h : Words s) {i : Nat} (hi : i < 16) : Word (s.getD i 0) := by
  have hl : i < s.length := by have := h.1; omega
  rw [show s.getD i 0 = s[i] by simp [List.getD, hl]]
  exact h.2 _ (List.getElem_mem hl)
theorem Words.set {s : List Int} (h : Words s) (i : Nat) {x : Int} (hx : Word x) : Words (s.set i x) :=
  ⟨by simp [h.1], fun y hy => by
    rcases List.mem_or_eq_of_mem_set hy with h' | rfl
    · exact h.2 _ h'
    · exact hx⟩

theorem GridAt.at_ {w : World} {T : TypeId} {g : Nat} {s : List Int} (h : GridAt w T g s) (hw : Words s) {i : Nat} (hi : i < 16) :
    ∃ x, Hid (x = s.getD i 0) ∧ Word x ∧ w.cell? ⟨g, i, none⟩ = some (.int .u32 x) ∧ w.frozen? ⟨g, i, none⟩ = false :=
  ⟨_, Lib.hid rfl, hw.at hi, h.cell (by have := hw.1; omega), frozen_of h i⟩
theorem GridAt.put {w : World} {T : TypeId} {g : Nat} {s t : List Int} (h : GridAt w T g s) (i : Nat) (x : Int) (ht : t = s.set i x) :
    ∃ w1, (w.setCell ⟨g, i, none⟩ (.int .u32 x)).drew = w1 ∧ GridAt w1 T g t ∧ Keeps w w1 (fun k => k = g) :=
  ⟨_, rfl, by subst ht; exact h.store i x, (Keeps.setCell w ⟨g, i, none⟩ _ (S := fun k => k = g) rfl).trans (Keeps.drew _ (fun k => k = g)) (fun _ _ h => h)⟩

def upd (s : List Int) (a b : Nat) : List Int := s.set a (addw (s.getD a 0) (s.getD b 0))
def twd (s : List Int) (d a n : Nat) : List Int := s.set d (rot (xr (s.getD d 0) (s.getD a 0)) n)
def half (s : List Int) (a b c d m n : Nat) : List Int := twd (upd (twd (upd s a b) d a m) c d) b c n
def qr (s : List Int) (a b c d : Nat) : List Int := half (half s a b c d 16 12) a b c d 8 7

theorem Words.upd {s : List Int} (h : Words s) (a b : Nat) : Words (upd s a b) := h.set a (addw_word _ _)
theorem Words.twd {s : List Int} (h : Words s) {d a n : Nat} (hd : d < 16) (ha : a < 16) (hn : n ≤ 16) : Words (twd s d a n) :=
  h.set d (rot_word _ _ (xr_word (h.at hd) (h.at ha)) hn)

set_option maxHeartbeats 4000000 in
set_option maxRecDepth 100000 in
theorem quarter_ok (a b c d : Nat) (ha : a < 16) (hb : b < 16) (hc : c < 16) (hd : d < 16) (g : Nat) (s : List Int) (w : World) (hw : Words s) (hg : GridAt w 44 g s) :
    Calls Try.prog 22 #[.pointer (some ⟨g, 0, none⟩), .int .i64 a, .int .i64 b, .int .i64 c, .int .i64 d] w fun e w' =>
      (∃ v, e = .returned v) ∧ GridAt w' 44 g (qr s a b c d) ∧ Keeps w w' (fun k => k = g) := by
  have HG := Lib.hid hg
  have HW := Lib.hid hw
  have hgl : g < w.heap.size := heap_lt hg
  have ia0 : (0 : Int) ≤ (a : Int) := by omega
  have ia1 : (a : Int) < 16 := by omega
  have ib0 : (0 : Int) ≤ (b : Int) := by omega
  have ib1 : (b : Int) < 16 := by omega
  have ic0 : (0 : Int) ≤ (c : Int) := by omega
  have ic1 : (c : Int) < 16 := by omega
  have id0 : (0 : Int) ≤ (d : Int) := by omega
  have id1 : (d : Int) < 16 := by omega
  clear hg hw
  have i0 : ∀ w, (Instr.index 59 (.agg #[.int .i64 16, .int .i64 12, .int .i64 8, .int .i64 7]) (.int .i64 0)).run Try.prog w = .ok (.agg #[.int .i64 16, .int .i64 12]) w := fun _ => by kernel_rfl
  have i1 : ∀ w, (Instr.index 59 (.agg #[.int .i64 16, .int .i64 12, .int .i64 8, .int .i64 7]) (.int .i64 1)).run Try.prog w = .ok (.agg #[.int .i64 8, .int .i64 7]) w := fun _ => by kernel_rfl
  go_enter Try.func22, Try.ntmps22
  go_wp2
  refine wp_loop_rounds 3 ?_
  rw [rounds_succ]
  go_wp2
  obtain ⟨w00, e1⟩ : ∃ w0, w.alloc (.cells #[.int .i64 16, .int .i64 12] 58) = w0 := ⟨_, rfl⟩
  rw [e1]
  have HGw00 : Hid (GridAt w00 44 g s) := Lib.hid (by rw [← e1]; exact (Keeps.alloc w _ (fun _ => False)).heap HG.out (fun h => h))
  have HN : Hid (w00.heap[w.heap.size]? = some (.cells #[.int .i64 16, .int .i64 12] 58 (0, 0))) := Lib.hid (by rw [← e1]; exact heap_alloc_new _ _)
  have K1 : Hid (Keeps w w00 (fun k => k = g)) := Lib.hid (e1 ▸ Keeps.alloc w (.cells #[.int .i64 16, .int .i64 12] 58) (fun k => k = g))
  have hgn : w.heap.size ≠ g := by have := heap_lt HG.out; omega
  have KK := K1
  clear e1 K1
  obtain ⟨xa, XA, ⟨xa0, xa1⟩, ca, fa⟩ := HGw00.out.at_ HW.out ha
  obtain ⟨xb, XB, ⟨xb0, xb1⟩, cb, fb⟩ := HGw00.out.at_ HW.out hb
  obtain ⟨s01, hs⟩ : ∃ t, t = upd s a b := ⟨_, rfl⟩
  have HWs01 : Hid (Words s01) := Lib.hid (by rw [hs]; exact HW.out.upd _ _)
  have ESs01 := Lib.hid hs
  clear hs
  go_still_tail 13, (by kernel_rfl)
  change wpList _ _ _ _ _ (World.drew _)
  go_wp2
  obtain ⟨w01, e1, hg1, k1⟩ := HGw00.out.put a ((xa + xb) % 4294967296) (t := s01) (by rw [ESs01.out, XA.out, XB.out]; rfl)
  rw [e1]
  have HGw01 := Lib.hid hg1
  have HN := Lib.hid (k1.heap HN.out hgn)
  have KK := Lib.hid (KK.out.trans k1 (fun _ _ h => h))
  clear e1 hg1 k1 ca cb fa fb
  obtain ⟨xa, XA, ⟨xa0, xa1⟩, ca, fa⟩ := HGw01.out.at_ HWs01.out hd
  obtain ⟨xb, XB, ⟨xb0, xb1⟩, cb, fb⟩ := HGw01.out.at_ HWs01.out ha
  obtain ⟨s02, hs⟩ : ∃ t, t = twd s01 d a 16 := ⟨_, rfl⟩
  have HWs02 : Hid (Words s02) := Lib.hid (by rw [hs]; exact HWs01.out.twd hd ha (by decide))
  have ESs02 := Lib.hid hs
  clear hs
  have cn : w01.cell? ⟨w.heap.size, 0, none⟩ = some (.int .i64 16) := cell_of HN.out 0
  obtain ⟨z, hz⟩ : ∃ z, bits .xor .u32 xa xb = z := ⟨_, rfl⟩
  have HZ : Hid (z = xr xa xb) := Lib.hid (hz.symm.trans (bits_xr ⟨xa0, xa1⟩ ⟨xb0, xb1⟩))
  have WZ : Hid (Word z) := Lib.hid (by rw [HZ.out]; exact xr_word ⟨xa0, xa1⟩ ⟨xb0, xb1⟩)
  go_still_tail 18, (by kernel_rfl)
  still_call ((rotl16 z _ WZ.out).mono (fun e w'' h => ⟨h.1, h.2.symm⟩))
  repeat still_step
  refine wpStill_nil ?_
  change wpList _ _ _ _ _ (World.drew _)
  go_wp2
  obtain ⟨w02, e1, hg1, k1⟩ := HGw01.out.put d (rot z 16) (t := s02) (by rw [ESs02.out, HZ.out, XA.out, XB.out]; rfl)
  rw [e1]
  have HGw02 := Lib.hid hg1
  have HN := Lib.hid (k1.heap HN.out hgn)
  have KK := Lib.hid (KK.out.trans k1 (fun _ _ h => h))
  clear e1 hg1 k1 ca cb fa fb cn hz
  obtain ⟨xa, XA, ⟨xa0, xa1⟩, ca, fa⟩ := HGw02.out.at_ HWs02.out hc
  obtain ⟨xb, XB, ⟨xb0, xb1⟩, cb, fb⟩ := HGw02.out.at_ HWs02.out hd
  obtain ⟨s03, hs⟩ : ∃ t, t = upd s02 c d := ⟨_, rfl⟩
  have HWs03 : Hid (Words s03) := Lib.hid (by rw [hs]; exact HWs02.out.upd _ _)
  have ESs03 := Lib.hid hs
  clear hs
  go_still_tail 13, (by kernel_rfl)
  change wpList _ _ _ _ _ (World.drew _)
  go_wp2
  obtain ⟨w03, e1, hg1, k1⟩ := HGw02.out.put c ((xa + xb) % 4294967296) (t := s03) (by rw [ESs03.out, XA.out, XB.out]; rfl)
  rw [e1]
  have HGw03 := Lib.hid hg1
  have HN := Lib.hid (k1.heap HN.out hgn)
  have KK := Lib.hid (KK.out.trans k1 (fun _ _ h => h))
  clear e1 hg1 k1 ca cb fa fb
  obtain ⟨xa, XA, ⟨xa0, xa1⟩, ca, fa⟩ := HGw03.out.at_ HWs03.out hb
  obtain ⟨xb, XB, ⟨xb0, xb1⟩, cb, fb⟩ := HGw03.out.at_ HWs03.out hc
  obtain ⟨s04, hs⟩ : ∃ t, t = twd s03 b c 12 := ⟨_, rfl⟩
  have HWs04 : Hid (Words s04) := Lib.hid (by rw [hs]; exact HWs03.out.twd hb hc (by decide))
  have ESs04 := Lib.hid hs
  clear hs
  have cn : w03.cell? ⟨w.heap.size, 1, none⟩ = some (.int .i64 12) := cell_of HN.out 1
  obtain ⟨z, hz⟩ : ∃ z, bits .xor .u32 xa xb = z := ⟨_, rfl⟩
  have HZ : Hid (z = xr xa xb) := Lib.hid (hz.symm.trans (bits_xr ⟨xa0, xa1⟩ ⟨xb0, xb1⟩))
  have WZ : Hid (Word z) := Lib.hid (by rw [HZ.out]; exact xr_word ⟨xa0, xa1⟩ ⟨xb0, xb1⟩)
  go_still_tail 18, (by kernel_rfl)
  still_call ((rotl12 z _ WZ.out).mono (fun e w'' h => ⟨h.1, h.2.symm⟩))
  repeat still_step
  refine wpStill_nil ?_
  change wpList _ _ _ _ _ (World.drew _)
  go_wp2
  obtain ⟨w04, e1, hg1, k1⟩ := HGw03.out.put b (rot z 12) (t := s04) (by rw [ESs04.out, HZ.out, XA.out, XB.out]; rfl)
  rw [e1]
  have HGw04 := Lib.hid hg1
  have KK := Lib.hid (KK.out.trans k1 (fun _ _ h => h))
  clear e1 hg1 k1 ca cb fa fb cn hz
  rw [rounds_succ]
  go_wp2
  obtain ⟨w10, e1⟩ : ∃ w0, w04.alloc (.cells #[.int .i64 8, .int .i64 7] 58) = w0 := ⟨_, rfl⟩
  rw [e1]
  have HGw10 : Hid (GridAt w10 44 g s04) := Lib.hid (by rw [← e1]; exact (Keeps.alloc w04 _ (fun _ => False)).heap HGw04.out (fun h => h))
  have HN : Hid (w10.heap[w04.heap.size]? = some (.cells #[.int .i64 8, .int .i64 7] 58 (0, 0))) := Lib.hid (by rw [← e1]; exact heap_alloc_new _ _)
  have K1 : Hid (Keeps w04 w10 (fun k => k = g)) := Lib.hid (e1 ▸ Keeps.alloc w04 (.cells #[.int .i64 8, .int .i64 7] 58) (fun k => k = g))
  have hgn : w04.heap.size ≠ g := by have := heap_lt HGw04.out; omega
  have KK := Lib.hid (KK.out.trans K1.out (fun _ _ h => h))
  clear e1 K1
  obtain ⟨xa, XA, ⟨xa0, xa1⟩, ca, fa⟩ := HGw10.out.at_ HWs04.out ha
  obtain ⟨xb, XB, ⟨xb0, xb1⟩, cb, fb⟩ := HGw10.out.at_ HWs04.out hb
  obtain ⟨s11, hs⟩ : ∃ t, t = upd s04 a b := ⟨_, rfl⟩
  have HWs11 : Hid (Words s11) := Lib.hid (by rw [hs]; exact HWs04.out.upd _ _)
  have ESs11 := Lib.hid hs
  clear hs
  go_still_tail 13, (by kernel_rfl)
  change wpList _ _ _ _ _ (World.drew _)
  go_wp2
  obtain ⟨w11, e1, hg1, k1⟩ := HGw10.out.put a ((xa + xb) % 4294967296) (t := s11) (by rw [ESs11.out, XA.out, XB.out]; rfl)
  rw [e1]
  have HGw11 := Lib.hid hg1
  have HN := Lib.hid (k1.heap HN.out hgn)
  have KK := Lib.hid (KK.out.trans k1 (fun _ _ h => h))
  clear e1 hg1 k1 ca cb fa fb
  obtain ⟨xa, XA, ⟨xa0, xa1⟩, ca, fa⟩ := HGw11.out.at_ HWs11.out hd
  obtain ⟨xb, XB, ⟨xb0, xb1⟩, cb, fb⟩ := HGw11.out.at_ HWs11.out ha
  obtain ⟨s12, hs⟩ : ∃ t, t = twd s11 d a 8 := ⟨_, rfl⟩
  have HWs12 : Hid (Words s12) := Lib.hid (by rw [hs]; exact HWs11.out.twd hd ha (by decide))
  have ESs12 := Lib.hid hs
  clear hs
  have cn : w11.cell? ⟨w04.heap.size, 0, none⟩ = some (.int .i64 8) := cell_of HN.out 0
  obtain ⟨z, hz⟩ : ∃ z, bits .xor .u32 xa xb = z := ⟨_, rfl⟩
  have HZ : Hid (z = xr xa xb) := Lib.hid (hz.symm.trans (bits_xr ⟨xa0, xa1⟩ ⟨xb0, xb1⟩))
  have WZ : Hid (Word z) := Lib.hid (by rw [HZ.out]; exact xr_word ⟨xa0, xa1⟩ ⟨xb0, xb1⟩)
  go_still_tail 18, (by kernel_rfl)
  still_call ((rotl8 z _ WZ.out).mono (fun e w'' h => ⟨h.1, h.2.symm⟩))
  repeat still_step
  refine wpStill_nil ?_
  change wpList _ _ _ _ _ (World.drew _)
  go_wp2
  obtain ⟨w12, e1, hg1, k1⟩ := HGw11.out.put d (rot z 8) (t := s12) (by rw [ESs12.out, HZ.out, XA.out, XB.out]; rfl)
  rw [e1]
  have HGw12 := Lib.hid hg1
  have HN := Lib.hid (k1.heap HN.out hgn)
  have KK := Lib.hid (KK.out.trans k1 (fun _ _ h => h))
  clear e1 hg1 k1 ca cb fa fb cn hz
  obtain ⟨xa, XA, ⟨xa0, xa1⟩, ca, fa⟩ := HGw12.out.at_ HWs12.out hc
  obtain ⟨xb, XB, ⟨xb0, xb1⟩, cb, fb⟩ := HGw12.out.at_ HWs12.out hd
  obtain ⟨s13, hs⟩ : ∃ t, t = upd s12 c d := ⟨_, rfl⟩
  have HWs13 : Hid (Words s13) := Lib.hid (by rw [hs]; exact HWs12.out.upd _ _)
  have ESs13 := Lib.hid hs
  clear hs
  go_still_tail 13, (by kernel_rfl)
  change wpList _ _ _ _ _ (World.drew _)
  go_wp2
  obtain ⟨w13, e1, hg1, k1⟩ := HGw12.out.put c ((xa + xb) % 4294967296) (t := s13) (by rw [ESs13.out, XA.out, XB.out]; rfl)
  rw [e1]
  have HGw13 := Lib.hid hg1
  have HN := Lib.hid (k1.heap HN.out hgn)
  have KK := Lib.hid (KK.out.trans k1 (fun _ _ h => h))
  clear e1 hg1 k1 ca cb fa fb
  obtain ⟨xa, XA, ⟨xa0, xa1⟩, ca, fa⟩ := HGw13.out.at_ HWs13.out hb
  obtain ⟨xb, XB, ⟨xb0, xb1⟩, cb, fb⟩ := HGw13.out.at_ HWs13.out hc
  obtain ⟨s14, hs⟩ : ∃ t, t = twd s13 b c 7 := ⟨_, rfl⟩
  have HWs14 : Hid (Words s14) := Lib.hid (by rw [hs]; exact HWs13.out.twd hb hc (by decide))
  have ESs14 := Lib.hid hs
  clear hs
  have cn : w13.cell? ⟨w04.heap.size, 1, none⟩ = some (.int .i64 7) := cell_of HN.out 1
  obtain ⟨z, hz⟩ : ∃ z, bits .xor .u32 xa xb = z := ⟨_, rfl⟩
  have HZ : Hid (z = xr xa xb) := Lib.hid (hz.symm.trans (bits_xr ⟨xa0, xa1⟩ ⟨xb0, xb1⟩))
  have WZ : Hid (Word z) := Lib.hid (by rw [HZ.out]; exact xr_word ⟨xa0, xa1⟩ ⟨xb0, xb1⟩)
  go_still_tail 18, (by kernel_rfl)
  still_call ((rotl7 z _ WZ.out).mono (fun e w'' h => ⟨h.1, h.2.symm⟩))
  repeat still_step
  refine wpStill_nil ?_
  change wpList _ _ _ _ _ (World.drew _)
  go_wp2
  obtain ⟨w14, e1, hg1, k1⟩ := HGw13.out.put b (rot z 7) (t := s14) (by rw [ESs14.out, HZ.out, XA.out, XB.out]; rfl)
  rw [e1]
  have HGw14 := Lib.hid hg1
  have KK := Lib.hid (KK.out.trans k1 (fun _ _ h => h))
  clear e1 hg1 k1 ca cb fa fb cn hz
  rw [rounds_succ]
  go_wp2
  go_end0
  refine ⟨⟨_, rfl⟩, ?_, KK.out⟩
  have := HGw14.out
  rw [ESs14.out, ESs13.out, ESs12.out, ESs11.out, ESs04.out, ESs03.out, ESs02.out, ESs01.out] at this
  exact this
end Go.Proofs.Ytmineipjnllopaa
