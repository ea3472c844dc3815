/- The reference's quarter. -/
import Derived.Test.YtmineipjnllopaaB0
import Derived.Test.YtmineipjnllopaaB1
namespace Go.Proofs.Ytmineipjnllopaa
open Go.RowKit
set_option linter.unusedVariables false

theorem size43 : (Try.prog.info? 43).map (·.size) = some 16 := by kernel_rfl
theorem size44 : (Try.prog.info? 44).map (·.size) = some 16 := by kernel_rfl
theorem words_one (s : List Int) : ∀ v ∈ s.map (Value.int .u32), v.oneCell' = true := by
  intro v hv; obtain ⟨x, _, rfl⟩ := List.mem_map.1 hv; rfl

theorem left16 (x : Int) (w : World) (hx : Word x) : Calls Try.prog 23 #[.int .u32 x, .int .i64 16] w fun e w' => e = .returned (.int .u32 (rot x 16)) ∧ w = w' := left_ok 16 x w hx (by decide)
theorem left12 (x : Int) (w : World) (hx : Word x) : Calls Try.prog 23 #[.int .u32 x, .int .i64 12] w fun e w' => e = .returned (.int .u32 (rot x 12)) ∧ w = w' := left_ok 12 x w hx (by decide)
theorem left8 (x : Int) (w : World) (hx : Word x) : Calls Try.prog 23 #[.int .u32 x, .int .i64 8] w fun e w' => e = .returned (.int .u32 (rot x 8)) ∧ w = w' := left_ok 8 x w hx (by decide)
theorem left7 (x : Int) (w : World) (hx : Word x) : Calls Try.prog 23 #[.int .u32 x, .int .i64 7] w fun e w' => e = .returned (.int .u32 (rot x 7)) ∧ w = w' := left_ok 7 x w hx (by decide)

set_option maxHeartbeats 4000000 in
set_option maxRecDepth 100000 in
theorem rquarter_ok (a b c d : Nat) (ha : a < 16) (hb : b < 16) (hc : c < 16) (hd : d < 16) (s : List Int) (w : World) (hw : Words s) :
    Calls Try.prog 19 #[.agg (words s), .int .i64 a, .int .i64 b, .int .i64 c, .int .i64 d] w fun e w' =>
      e = .returned (.agg (words (qr s a b c d))) ∧ Below w.heap.size w w' := by
  have HW := Lib.hid hw
  clear hw
  have ia0 : (0 : Int) ≤ (a : Int) := by omega
  have ia1 : (a : Int) < 16 := by omega
  have ib0 : (0 : Int) ≤ (b : Int) := by omega
  have ib1 : (b : Int) < 16 := by omega
  have ic0 : (0 : Int) ≤ (c : Int) := by omega
  have ic1 : (c : Int) < 16 := by omega
  have id0 : (0 : Int) ≤ (d : Int) := by omega
  have id1 : (d : Int) < 16 := by omega
  obtain ⟨cs, hcs⟩ : ∃ cs, words s = cs := ⟨_, rfl⟩
  rw [hcs]
  have CS := Lib.hid hcs
  clear hcs
  go_enter Try.func19, Try.ntmps19
  go_wp2
  obtain ⟨w0, e1⟩ : ∃ w0, (w.alloc (.cells cs 43)).alloc (.cells #[.int .u32 0, .int .u32 0, .int .u32 0, .int .u32 0, .int .u32 0, .int .u32 0, .int .u32 0, .int .u32 0, .int .u32 0, .int .u32 0, .int .u32 0, .int .u32 0, .int .u32 0, .int .u32 0, .int .u32 0, .int .u32 0] 43) = w0 := ⟨_, rfl⟩
  rw [e1]
  have HG0 : Hid (GridAt w0 43 w.heap.size s) := Lib.hid (by rw [← e1]; have h := heap_alloc2_old w (.cells cs 43) (.cells #[.int .u32 0, .int .u32 0, .int .u32 0, .int .u32 0, .int .u32 0, .int .u32 0, .int .u32 0, .int .u32 0, .int .u32 0, .int .u32 0, .int .u32 0, .int .u32 0, .int .u32 0, .int .u32 0, .int .u32 0, .int .u32 0] 43); rw [← CS.out] at h ⊢; exact h)
  have HR : Hid (w0.heap[w.heap.size + 1]? = some (.cells #[.int .u32 0, .int .u32 0, .int .u32 0, .int .u32 0, .int .u32 0, .int .u32 0, .int .u32 0, .int .u32 0, .int .u32 0, .int .u32 0, .int .u32 0, .int .u32 0, .int .u32 0, .int .u32 0, .int .u32 0, .int .u32 0] 43 (0, 0))) := Lib.hid (by rw [← e1]; exact heap_alloc2_new w _ _)
  have KK : Hid (Keeps w w0 (fun k => k = w.heap.size)) := Lib.hid (by rw [← e1]; exact (Keeps.alloc w _ (fun k => k = w.heap.size)).trans (Keeps.alloc _ _ (fun k => k = w.heap.size)) (fun _ _ h => h))
  clear e1
  obtain ⟨xa, XA, ⟨xa0, xa1⟩, ca, fa⟩ := HG0.out.at_ HW.out ha
  obtain ⟨xb, XB, ⟨xb0, xb1⟩, cb, fb⟩ := HG0.out.at_ HW.out hb
  obtain ⟨s1, hs⟩ : ∃ t, t = upd s a b := ⟨_, rfl⟩
  have HWs1 : Hid (Words s1) := Lib.hid (by rw [hs]; exact HW.out.upd _ _)
  have ESs1 := Lib.hid hs
  clear hs
  go_still_tail 9, (by kernel_rfl)
  change wpList _ _ _ _ _ (World.drew _)
  go_wp2
  obtain ⟨w1, e1, hg1, k1⟩ := HG0.out.put a ((xa + xb) % 4294967296) (t := s1) (by rw [ESs1.out, XA.out, XB.out]; rfl)
  rw [e1]
  have HGw1 := Lib.hid hg1
  have HR := Lib.hid (k1.heap HR.out (by omega))
  have KK := Lib.hid (KK.out.trans k1 (fun _ _ h => h))
  clear e1 hg1 k1 ca cb fa fb
  obtain ⟨xa, XA, ⟨xa0, xa1⟩, ca, fa⟩ := HGw1.out.at_ HWs1.out hd
  obtain ⟨xb, XB, ⟨xb0, xb1⟩, cb, fb⟩ := HGw1.out.at_ HWs1.out ha
  obtain ⟨s2, hs⟩ : ∃ t, t = twd s1 d a 16 := ⟨_, rfl⟩
  have HWs2 : Hid (Words s2) := Lib.hid (by rw [hs]; exact HWs1.out.twd hd ha (by decide))
  have ESs2 := Lib.hid hs
  clear hs
  obtain ⟨z, hz⟩ : ∃ z, bits .xor .u32 xa xb = z := ⟨_, rfl⟩
  have HZ : Hid (z = xr xa xb) := Lib.hid (hz.symm.trans (bits_xr ⟨xa0, xa1⟩ ⟨xb0, xb1⟩))
  have WZ : Hid (Word z) := Lib.hid (by rw [HZ.out]; exact xr_word ⟨xa0, xa1⟩ ⟨xb0, xb1⟩)
  go_still_tail 10, (by kernel_rfl)
  still_call ((left16 z _ WZ.out).mono (fun e w'' h => ⟨h.1, h.2.symm⟩))
  repeat still_step
  refine wpStill_nil ?_
  change wpList _ _ _ _ _ (World.drew _)
  go_wp2
  obtain ⟨w2, e1, hg1, k1⟩ := HGw1.out.put d (rot z 16) (t := s2) (by rw [ESs2.out, HZ.out, XA.out, XB.out]; rfl)
  rw [e1]
  have HGw2 := Lib.hid hg1
  have HR := Lib.hid (k1.heap HR.out (by omega))
  have KK := Lib.hid (KK.out.trans k1 (fun _ _ h => h))
  clear e1 hg1 k1 ca cb fa fb hz
  obtain ⟨xa, XA, ⟨xa0, xa1⟩, ca, fa⟩ := HGw2.out.at_ HWs2.out hc
  obtain ⟨xb, XB, ⟨xb0, xb1⟩, cb, fb⟩ := HGw2.out.at_ HWs2.out hd
  obtain ⟨s3, hs⟩ : ∃ t, t = upd s2 c d := ⟨_, rfl⟩
  have HWs3 : Hid (Words s3) := Lib.hid (by rw [hs]; exact HWs2.out.upd _ _)
  have ESs3 := Lib.hid hs
  clear hs
  go_still_tail 9, (by kernel_rfl)
  change wpList _ _ _ _ _ (World.drew _)
  go_wp2
  obtain ⟨w3, e1, hg1, k1⟩ := HGw2.out.put c ((xa + xb) % 4294967296) (t := s3) (by rw [ESs3.out, XA.out, XB.out]; rfl)
  rw [e1]
  have HGw3 := Lib.hid hg1
  have HR := Lib.hid (k1.heap HR.out (by omega))
  have KK := Lib.hid (KK.out.trans k1 (fun _ _ h => h))
  clear e1 hg1 k1 ca cb fa fb
  obtain ⟨xa, XA, ⟨xa0, xa1⟩, ca, fa⟩ := HGw3.out.at_ HWs3.out hb
  obtain ⟨xb, XB, ⟨xb0, xb1⟩, cb, fb⟩ := HGw3.out.at_ HWs3.out hc
  obtain ⟨s4, hs⟩ : ∃ t, t = twd s3 b c 12 := ⟨_, rfl⟩
  have HWs4 : Hid (Words s4) := Lib.hid (by rw [hs]; exact HWs3.out.twd hb hc (by decide))
  have ESs4 := Lib.hid hs
  clear hs
  obtain ⟨z, hz⟩ : ∃ z, bits .xor .u32 xa xb = z := ⟨_, rfl⟩
  have HZ : Hid (z = xr xa xb) := Lib.hid (hz.symm.trans (bits_xr ⟨xa0, xa1⟩ ⟨xb0, xb1⟩))
  have WZ : Hid (Word z) := Lib.hid (by rw [HZ.out]; exact xr_word ⟨xa0, xa1⟩ ⟨xb0, xb1⟩)
  go_still_tail 10, (by kernel_rfl)
  still_call ((left12 z _ WZ.out).mono (fun e w'' h => ⟨h.1, h.2.symm⟩))
  repeat still_step
  refine wpStill_nil ?_
  change wpList _ _ _ _ _ (World.drew _)
  go_wp2
  obtain ⟨w4, e1, hg1, k1⟩ := HGw3.out.put b (rot z 12) (t := s4) (by rw [ESs4.out, HZ.out, XA.out, XB.out]; rfl)
  rw [e1]
  have HGw4 := Lib.hid hg1
  have HR := Lib.hid (k1.heap HR.out (by omega))
  have KK := Lib.hid (KK.out.trans k1 (fun _ _ h => h))
  clear e1 hg1 k1 ca cb fa fb hz
  obtain ⟨xa, XA, ⟨xa0, xa1⟩, ca, fa⟩ := HGw4.out.at_ HWs4.out ha
  obtain ⟨xb, XB, ⟨xb0, xb1⟩, cb, fb⟩ := HGw4.out.at_ HWs4.out hb
  obtain ⟨s5, hs⟩ : ∃ t, t = upd s4 a b := ⟨_, rfl⟩
  have HWs5 : Hid (Words s5) := Lib.hid (by rw [hs]; exact HWs4.out.upd _ _)
  have ESs5 := Lib.hid hs
  clear hs
  go_still_tail 9, (by kernel_rfl)
  change wpList _ _ _ _ _ (World.drew _)
  go_wp2
  obtain ⟨w5, e1, hg1, k1⟩ := HGw4.out.put a ((xa + xb) % 4294967296) (t := s5) (by rw [ESs5.out, XA.out, XB.out]; rfl)
  rw [e1]
  have HGw5 := Lib.hid hg1
  have HR := Lib.hid (k1.heap HR.out (by omega))
  have KK := Lib.hid (KK.out.trans k1 (fun _ _ h => h))
  clear e1 hg1 k1 ca cb fa fb
  obtain ⟨xa, XA, ⟨xa0, xa1⟩, ca, fa⟩ := HGw5.out.at_ HWs5.out hd
  obtain ⟨xb, XB, ⟨xb0, xb1⟩, cb, fb⟩ := HGw5.out.at_ HWs5.out ha
  obtain ⟨s6, hs⟩ : ∃ t, t = twd s5 d a 8 := ⟨_, rfl⟩
  have HWs6 : Hid (Words s6) := Lib.hid (by rw [hs]; exact HWs5.out.twd hd ha (by decide))
  have ESs6 := Lib.hid hs
  clear hs
  obtain ⟨z, hz⟩ : ∃ z, bits .xor .u32 xa xb = z := ⟨_, rfl⟩
  have HZ : Hid (z = xr xa xb) := Lib.hid (hz.symm.trans (bits_xr ⟨xa0, xa1⟩ ⟨xb0, xb1⟩))
  have WZ : Hid (Word z) := Lib.hid (by rw [HZ.out]; exact xr_word ⟨xa0, xa1⟩ ⟨xb0, xb1⟩)
  go_still_tail 10, (by kernel_rfl)
  still_call ((left8 z _ WZ.out).mono (fun e w'' h => ⟨h.1, h.2.symm⟩))
  repeat still_step
  refine wpStill_nil ?_
  change wpList _ _ _ _ _ (World.drew _)
  go_wp2
  obtain ⟨w6, e1, hg1, k1⟩ := HGw5.out.put d (rot z 8) (t := s6) (by rw [ESs6.out, HZ.out, XA.out, XB.out]; rfl)
  rw [e1]
  have HGw6 := Lib.hid hg1
  have HR := Lib.hid (k1.heap HR.out (by omega))
  have KK := Lib.hid (KK.out.trans k1 (fun _ _ h => h))
  clear e1 hg1 k1 ca cb fa fb hz
  obtain ⟨xa, XA, ⟨xa0, xa1⟩, ca, fa⟩ := HGw6.out.at_ HWs6.out hc
  obtain ⟨xb, XB, ⟨xb0, xb1⟩, cb, fb⟩ := HGw6.out.at_ HWs6.out hd
  obtain ⟨s7, hs⟩ : ∃ t, t = upd s6 c d := ⟨_, rfl⟩
  have HWs7 : Hid (Words s7) := Lib.hid (by rw [hs]; exact HWs6.out.upd _ _)
  have ESs7 := Lib.hid hs
  clear hs
  go_still_tail 9, (by kernel_rfl)
  change wpList _ _ _ _ _ (World.drew _)
  go_wp2
  obtain ⟨w7, e1, hg1, k1⟩ := HGw6.out.put c ((xa + xb) % 4294967296) (t := s7) (by rw [ESs7.out, XA.out, XB.out]; rfl)
  rw [e1]
  have HGw7 := Lib.hid hg1
  have HR := Lib.hid (k1.heap HR.out (by omega))
  have KK := Lib.hid (KK.out.trans k1 (fun _ _ h => h))
  clear e1 hg1 k1 ca cb fa fb
  obtain ⟨xa, XA, ⟨xa0, xa1⟩, ca, fa⟩ := HGw7.out.at_ HWs7.out hb
  obtain ⟨xb, XB, ⟨xb0, xb1⟩, cb, fb⟩ := HGw7.out.at_ HWs7.out hc
  obtain ⟨s8, hs⟩ : ∃ t, t = twd s7 b c 7 := ⟨_, rfl⟩
  have HWs8 : Hid (Words s8) := Lib.hid (by rw [hs]; exact HWs7.out.twd hb hc (by decide))
  have ESs8 := Lib.hid hs
  clear hs
  obtain ⟨z, hz⟩ : ∃ z, bits .xor .u32 xa xb = z := ⟨_, rfl⟩
  have HZ : Hid (z = xr xa xb) := Lib.hid (hz.symm.trans (bits_xr ⟨xa0, xa1⟩ ⟨xb0, xb1⟩))
  have WZ : Hid (Word z) := Lib.hid (by rw [HZ.out]; exact xr_word ⟨xa0, xa1⟩ ⟨xb0, xb1⟩)
  go_still_tail 10, (by kernel_rfl)
  still_call ((left7 z _ WZ.out).mono (fun e w'' h => ⟨h.1, h.2.symm⟩))
  repeat still_step
  refine wpStill_nil ?_
  change wpList _ _ _ _ _ (World.drew _)
  obtain ⟨w8, e1, hg1, k1⟩ := HGw7.out.put b (rot z 7) (t := s8) (by rw [ESs8.out, HZ.out, XA.out, XB.out]; rfl)
  have E1 := Lib.hid e1
  have HGw8 := Lib.hid hg1
  have HR := Lib.hid (k1.heap HR.out (by omega))
  have KK := Lib.hid (KK.out.trans k1 (fun _ _ h => h))
  clear e1 hg1 k1
  obtain ⟨cs8, hc8⟩ : ∃ cs, words s8 = cs := ⟨_, rfl⟩
  have hg8 := HGw8.out
  have hr8 := HR.out
  unfold GridAt at hg8
  have hl8 : (s8.map (Value.int .u32)).length = 16 := by simp [HWs8.out.1]
  have hsz : (Try.prog.info? 43).map (·.size) = some (words s8).size := by rw [size43]; simp [words, HWs8.out.1]
  have hsz2 : (Try.prog.info? 43).map (·.size) = some (s8.map (Value.int .u32)).length := by rw [size43, hl8]
  have H8 := Lib.hid (And.intro hg8 (And.intro hr8 (And.intro hl8 (And.intro hsz hsz2))))
  clear hc8 hg8 hr8 hl8 hsz hsz2
  go_wp2_with (first
    | (refine wpList_load_row rfl 43 _ rfl w.heap.size rfl 43 (words s8) (0, 0) _ (by rw [E1.out]; exact H8.out.1) Try.underlying43 rfl H8.out.2.2.2.1 ?_; rw [E1.out])
    | (refine wpList_store_row rfl 43 _ _ rfl (w.heap.size + 1) (s8.map (Value.int .u32)) rfl rfl 43 _ H8.out.2.1 H8.out.2.2.1 H8.out.2.2.2.2 (words_one s8) ?_; intro w9 hg9 k9))
  refine bodyPost_ret (results_cell_row rfl _ _ (w.heap.size + 1) 43 (words s8) (0, 0) _ rfl hg9 Try.underlying43 rfl H8.out.2.2.2.1) rfl ⟨?_, ?_⟩
  · rw [ESs8.out, ESs7.out, ESs6.out, ESs5.out, ESs4.out, ESs3.out, ESs2.out, ESs1.out]; rfl
  · exact (KK.out.trans k9 (T := fun k => k = w.heap.size + 1) (S := fun k => k = w.heap.size) (fun i hi h => by omega)).below (fun i hi h => by omega)
end Go.Proofs.Ytmineipjnllopaa
