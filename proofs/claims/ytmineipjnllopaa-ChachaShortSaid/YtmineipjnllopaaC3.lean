/- The reference's block. -/
import Derived.Test.YtmineipjnllopaaC2
namespace Go.Proofs.Ytmineipjnllopaa
open Go.RowKit
set_option linter.unusedVariables false

theorem word_at (T g o cp : Nat) (ks : List Int) (i : Nat) (w : World) (hb : Bytes ks) (hk : BytesAt w T g ks) (hi : 4 * i + 3 < ks.length) (ho : o = 4 * i) :
    Calls Try.prog 18 #[.slice (some ⟨g, o, none⟩) 4 cp] w fun e w' => e = .returned (.int .u32 (wd ks i)) ∧ Keeps w w' (fun _ => False) := by
  subst ho
  refine (word_ok g (4 * i) cp _ _ _ _ w (hb.at_ (by omega)) (hb.at_ (by omega)) (hb.at_ (by omega)) (hb.at_ hi) (hk.at_ (by omega)).1 (hk.at_ (by omega)).1 (hk.at_ (by omega)).1 (hk.at_ hi).1).mono ?_
  rintro e w' ⟨rfl, n, rfl⟩
  exact ⟨rfl, rfl, rfl, rfl, Nat.le_refl _, fun _ _ _ => rfl⟩
def rconsts : List Int := [1634760805, 857760878, 2036477234, 1797285236, 0, 0, 0, 0, 0, 0, 0, 0, 0, 0, 0, 0]
def rstart (ks ns : List Int) (c : Int) : List Int :=
  ((((((((((((rconsts).set 4 (wd ks 0)).set 5 (wd ks 1)).set 6 (wd ks 2)).set 7 (wd ks 3)).set 8 (wd ks 4)).set 9 (wd ks 5)).set 10 (wd ks 6)).set 11 (wd ks 7)).set 12 c).set 13 (wd ns 0)).set 14 (wd ns 1)).set 15 (wd ns 2)
theorem rstart_eq (ks ns : List Int) (c : Int) : rstart ks ns c = startG ks ns c := rfl

theorem rquarter_lit (a b c d : Nat) (A B C D : Int) (eA : A = a) (eB : B = b) (eC : C = c) (eD : D = d) (ha : a < 16) (hb : b < 16) (hc : c < 16) (hd : d < 16) (s : List Int) (w : World) (hw : Words s) :
    Calls Try.prog 19 #[.agg (words s), .int .i64 A, .int .i64 B, .int .i64 C, .int .i64 D] w fun e w' => e = .returned (.agg (words (qr s a b c d))) ∧ Below w.heap.size w w' := by
  subst eA eB eC eD
  exact rquarter_ok a b c d ha hb hc hd s w hw

def byteOf (x : Int) : Nat → Int
  | 0 => x % 256
  | 1 => x / 256 % 256
  | 2 => x / 65536 % 256
  | _ => x / 16777216
def outR (g was : List Int) : Nat → List Int
  | 0 => List.replicate 64 0
  | k + 1 => (outR g was k).set k (byteOf (addw (g.getD (k / 4) 0) (was.getD (k / 4) 0)) (k % 4))
theorem outR_length (g was : List Int) : ∀ k, (outR g was k).length = 64
  | 0 => rfl
  | k + 1 => by simp [outR, outR_length g was k]
theorem outR_four (g was : List Int) : ∀ q, outR g was (4 * q) = outK g was q
  | 0 => rfl
  | q + 1 => by
    show outR g was (4 * q + 1 + 1 + 1 + 1) = _
    simp only [outR, outK, put4, outR_four g was q]
    have e0 : (4 * q) / 4 = q := by omega
    have e1 : (4 * q + 1) / 4 = q := by omega
    have e2 : (4 * q + 1 + 1) / 4 = q := by omega
    have e3 : (4 * q + 1 + 1 + 1) / 4 = q := by omega
    have r0 : (4 * q) % 4 = 0 := by omega
    have r1 : (4 * q + 1) % 4 = 1 := by omega
    have r2 : (4 * q + 1 + 1) % 4 = 2 := by omega
    have r3 : (4 * q + 1 + 1 + 1) % 4 = 3 := by omega
    rw [e0, e1, e2, e3, r0, r1, r2, r3]
    rfl
theorem BytesAt.putd {w : World} {T : TypeId} {g : Nat} {ys zs : List Int} (h : BytesAt w T g ys) (i : Nat) (x : Int) (hz : zs = ys.set i x) :
    ∃ w1, (w.setCell ⟨g, i, none⟩ (.int .u8 x)).drew = w1 ∧ BytesAt w1 T g zs ∧ Keeps w w1 (fun k => k = g) := by
  obtain ⟨w1, rfl, h1, h2⟩ := h.put i x hz
  exact ⟨_, rfl, h1, h2.trans (Keeps.drew _ (fun k => k = g)) (fun _ _ h => h)⟩
theorem heap_drop {w w1 : World} {g : Nat} {S : Nat → Prop} {x : Obj} (h : w.heap[g]? = some x) (k : Keeps w w1 S) (hn : ¬ S g) : w1.heap[g]? = some x := k.heap h hn
theorem grid_row {w : World} {g : Nat} {s : List Int} (hw : Words s) : (Try.prog.info? 43).map (·.size) = some (words s).size := by rw [size43]; simp [words, hw.1]
theorem grid_row' {s : List Int} (hw : Words s) : (Try.prog.info? 43).map (·.size) = some (s.map (Value.int .u32)).length := by rw [size43, List.length_map, hw.1]

set_option maxHeartbeats 4000000 in
set_option maxRecDepth 100000 in
theorem rblock_ok (ks ns : List Int) (c : Int) (w : World) (hk : ks.length = 32) (hn : ns.length = 12) (bk : Bytes ks) (bn : Bytes ns) (hc : Word c) :
    Calls Try.prog 11 #[.agg (ints ks).toArray, .agg (ints ns).toArray, .int .u32 c] w fun e w' =>
      e = .returned (.agg (ints (blk ks ns c)).toArray) ∧ Below w.heap.size w w' := by
  have SW := Lib.hid (startG_words hk hn bk bn hc)
  have hblk : blk ks ns c = outK (iterD 10 (startG ks ns c)) (startG ks ns c) 16 := rfl
  rw [hblk]
  obtain ⟨s, hs⟩ : ∃ s, startG ks ns c = s := ⟨_, rfl⟩
  rw [hs] at SW
  rw [hs]
  have ES0 := Lib.hid hs
  clear hblk hs
  obtain ⟨k0, hk0⟩ : ∃ k0, (ints ks).toArray = k0 := ⟨_, rfl⟩
  obtain ⟨n0, hn0⟩ : ∃ n0, (ints ns).toArray = n0 := ⟨_, rfl⟩
  rw [hk0, hn0]
  have KS := Lib.hid hk0
  have NS := Lib.hid hn0
  have KL := Lib.hid hk
  have NL := Lib.hid hn
  have BK := Lib.hid bk
  have BN := Lib.hid bn
  obtain ⟨hc0, hc1⟩ := hc
  clear hk0 hn0 hk hn bk bn
  go_enter Try.func11, Try.ntmps11
  go_wp2
  obtain ⟨w0, e1⟩ : ∃ w0, ((((w.alloc (.cells k0 22)).alloc (.cells n0 29)).alloc (.cells #[.int .u8 0, .int .u8 0, .int .u8 0, .int .u8 0, .int .u8 0, .int .u8 0, .int .u8 0, .int .u8 0, .int .u8 0, .int .u8 0, .int .u8 0, .int .u8 0, .int .u8 0, .int .u8 0, .int .u8 0, .int .u8 0, .int .u8 0, .int .u8 0, .int .u8 0, .int .u8 0, .int .u8 0, .int .u8 0, .int .u8 0, .int .u8 0, .int .u8 0, .int .u8 0, .int .u8 0, .int .u8 0, .int .u8 0, .int .u8 0, .int .u8 0, .int .u8 0, .int .u8 0, .int .u8 0, .int .u8 0, .int .u8 0, .int .u8 0, .int .u8 0, .int .u8 0, .int .u8 0, .int .u8 0, .int .u8 0, .int .u8 0, .int .u8 0, .int .u8 0, .int .u8 0, .int .u8 0, .int .u8 0, .int .u8 0, .int .u8 0, .int .u8 0, .int .u8 0, .int .u8 0, .int .u8 0, .int .u8 0, .int .u8 0, .int .u8 0, .int .u8 0, .int .u8 0, .int .u8 0, .int .u8 0, .int .u8 0, .int .u8 0, .int .u8 0] 32)).alloc (.cells #[.int .u32 1634760805, .int .u32 857760878, .int .u32 2036477234, .int .u32 1797285236, .int .u32 0, .int .u32 0, .int .u32 0, .int .u32 0, .int .u32 0, .int .u32 0, .int .u32 0, .int .u32 0, .int .u32 0, .int .u32 0, .int .u32 0, .int .u32 0] 43)) = w0 := ⟨_, rfl⟩
  rw [e1]
  have hK : BytesAt w0 22 w.heap.size ks := by rw [← e1]; unfold BytesAt; rw [KS.out]; exact (heap_old_at _ _ _ (by simp <;> omega)).trans ((heap_old_at _ _ _ (by simp <;> omega)).trans ((heap_old_at _ _ _ (by simp <;> omega)).trans (heap_new_at _ _ _ rfl)))
  have hN : BytesAt w0 29 (w.heap.size + 1) ns := by rw [← e1]; unfold BytesAt; rw [NS.out]; exact (heap_old_at _ _ _ (by simp <;> omega)).trans ((heap_old_at _ _ _ (by simp <;> omega)).trans (heap_new_at _ _ _ (by simp)))
  have hR : w0.heap[w.heap.size + 1 + 1]? = some (.cells #[.int .u8 0, .int .u8 0, .int .u8 0, .int .u8 0, .int .u8 0, .int .u8 0, .int .u8 0, .int .u8 0, .int .u8 0, .int .u8 0, .int .u8 0, .int .u8 0, .int .u8 0, .int .u8 0, .int .u8 0, .int .u8 0, .int .u8 0, .int .u8 0, .int .u8 0, .int .u8 0, .int .u8 0, .int .u8 0, .int .u8 0, .int .u8 0, .int .u8 0, .int .u8 0, .int .u8 0, .int .u8 0, .int .u8 0, .int .u8 0, .int .u8 0, .int .u8 0, .int .u8 0, .int .u8 0, .int .u8 0, .int .u8 0, .int .u8 0, .int .u8 0, .int .u8 0, .int .u8 0, .int .u8 0, .int .u8 0, .int .u8 0, .int .u8 0, .int .u8 0, .int .u8 0, .int .u8 0, .int .u8 0, .int .u8 0, .int .u8 0, .int .u8 0, .int .u8 0, .int .u8 0, .int .u8 0, .int .u8 0, .int .u8 0, .int .u8 0, .int .u8 0, .int .u8 0, .int .u8 0, .int .u8 0, .int .u8 0, .int .u8 0, .int .u8 0] 32 (0, 0)) := by rw [← e1]; exact (heap_old_at _ _ _ (by simp <;> omega)).trans (heap_new_at _ _ _ (by simp))
  have hG : GridAt w0 43 (w.heap.size + 1 + 1 + 1) rconsts := by rw [← e1]; exact heap_new_at _ _ _ (by simp)
  have kk : Keeps w w0 (fun k => w.heap.size ≤ k) := Keeps.of_below (by rw [← e1]; exact ((((Below.refl _ _).alloc (Nat.le_refl _) _).alloc (by simp) _).alloc (by simp <;> omega) _).alloc (by simp <;> omega) _)
  have HK := Lib.hid hK
  have HN := Lib.hid hN
  have HR := Lib.hid hR
  have HG := Lib.hid hG
  have KK := Lib.hid kk
  clear hK hN hR hG kk e1
  refine wp_loop_rounds 9 ?_
  rw [rounds_succ]
  obtain ⟨z, hz⟩ : ∃ z, z = wd ks 0 := ⟨_, rfl⟩
  have HW := Lib.hid hz
  clear hz
  go_wp2_with fail
  refine (word_at 22 _ _ _ ks 0 _ BK.out HK.out (by rw [KL.out]; decide) (by rfl)).mono ?_
  rintro e w9 ⟨rfl, k9⟩
  rw [← HW.out]
  have HG := Lib.hid (heap_drop HG.out k9 (fun h => h))
  have HK := Lib.hid (heap_drop HK.out k9 (fun h => h))
  have HN := Lib.hid (heap_drop HN.out k9 (fun h => h))
  have HR := Lib.hid (heap_drop HR.out k9 (fun h => h))
  have KK := Lib.hid (KK.out.trans k9 (fun i hi h => by first | exact h.elim | omega))
  clear k9
  have cg : (w9.cell? ⟨w.heap.size + 1 + 1 + 1, 4, none⟩) = some (.int .u32 0) := cell_of HG.out 4
  have fg := frozen_of HG.out 4
  go_wp2
  obtain ⟨w1, e1, hg1, k1⟩ := GridAt.put' (s := rconsts) HG.out 4 z (t := rconsts.set 4 z) rfl
  rw [e1]
  have HK := Lib.hid (heap_drop HK.out k1 (by omega))
  have HN := Lib.hid (heap_drop HN.out k1 (by omega))
  have HR := Lib.hid (heap_drop HR.out k1 (by omega))
  have KK := Lib.hid (KK.out.trans k1 (fun i hi h => by first | exact h.elim | omega))
  have HG := Lib.hid hg1
  rw [HW.out] at HG
  clear e1 hg1 k1 cg fg HW
  rw [rounds_succ]
  obtain ⟨z, hz⟩ : ∃ z, z = wd ks 1 := ⟨_, rfl⟩
  have HW := Lib.hid hz
  clear hz
  go_wp2_with fail
  refine (word_at 22 _ _ _ ks 1 _ BK.out HK.out (by rw [KL.out]; decide) (by rfl)).mono ?_
  rintro e w9 ⟨rfl, k9⟩
  rw [← HW.out]
  have HG := Lib.hid (heap_drop HG.out k9 (fun h => h))
  have HK := Lib.hid (heap_drop HK.out k9 (fun h => h))
  have HN := Lib.hid (heap_drop HN.out k9 (fun h => h))
  have HR := Lib.hid (heap_drop HR.out k9 (fun h => h))
  have KK := Lib.hid (KK.out.trans k9 (fun i hi h => by first | exact h.elim | omega))
  clear k9
  have cg : (w9.cell? ⟨w.heap.size + 1 + 1 + 1, 5, none⟩) = some (.int .u32 0) := cell_of HG.out 5
  have fg := frozen_of HG.out 5
  go_wp2
  obtain ⟨w2, e1, hg1, k1⟩ := GridAt.put' (s := (rconsts.set 4 (wd ks 0))) HG.out 5 z (t := (rconsts.set 4 (wd ks 0)).set 5 z) rfl
  rw [e1]
  have HK := Lib.hid (heap_drop HK.out k1 (by omega))
  have HN := Lib.hid (heap_drop HN.out k1 (by omega))
  have HR := Lib.hid (heap_drop HR.out k1 (by omega))
  have KK := Lib.hid (KK.out.trans k1 (fun i hi h => by first | exact h.elim | omega))
  have HG := Lib.hid hg1
  rw [HW.out] at HG
  clear e1 hg1 k1 cg fg HW
  rw [rounds_succ]
  obtain ⟨z, hz⟩ : ∃ z, z = wd ks 2 := ⟨_, rfl⟩
  have HW := Lib.hid hz
  clear hz
  go_wp2_with fail
  refine (word_at 22 _ _ _ ks 2 _ BK.out HK.out (by rw [KL.out]; decide) (by rfl)).mono ?_
  rintro e w9 ⟨rfl, k9⟩
  rw [← HW.out]
  have HG := Lib.hid (heap_drop HG.out k9 (fun h => h))
  have HK := Lib.hid (heap_drop HK.out k9 (fun h => h))
  have HN := Lib.hid (heap_drop HN.out k9 (fun h => h))
  have HR := Lib.hid (heap_drop HR.out k9 (fun h => h))
  have KK := Lib.hid (KK.out.trans k9 (fun i hi h => by first | exact h.elim | omega))
  clear k9
  have cg : (w9.cell? ⟨w.heap.size + 1 + 1 + 1, 6, none⟩) = some (.int .u32 0) := cell_of HG.out 6
  have fg := frozen_of HG.out 6
  go_wp2
  obtain ⟨w3, e1, hg1, k1⟩ := GridAt.put' (s := ((rconsts.set 4 (wd ks 0)).set 5 (wd ks 1))) HG.out 6 z (t := ((rconsts.set 4 (wd ks 0)).set 5 (wd ks 1)).set 6 z) rfl
  rw [e1]
  have HK := Lib.hid (heap_drop HK.out k1 (by omega))
  have HN := Lib.hid (heap_drop HN.out k1 (by omega))
  have HR := Lib.hid (heap_drop HR.out k1 (by omega))
  have KK := Lib.hid (KK.out.trans k1 (fun i hi h => by first | exact h.elim | omega))
  have HG := Lib.hid hg1
  rw [HW.out] at HG
  clear e1 hg1 k1 cg fg HW
  rw [rounds_succ]
  obtain ⟨z, hz⟩ : ∃ z, z = wd ks 3 := ⟨_, rfl⟩
  have HW := Lib.hid hz
  clear hz
  go_wp2_with fail
  refine (word_at 22 _ _ _ ks 3 _ BK.out HK.out (by rw [KL.out]; decide) (by rfl)).mono ?_
  rintro e w9 ⟨rfl, k9⟩
  rw [← HW.out]
  have HG := Lib.hid (heap_drop HG.out k9 (fun h => h))
  have HK := Lib.hid (heap_drop HK.out k9 (fun h => h))
  have HN := Lib.hid (heap_drop HN.out k9 (fun h => h))
  have HR := Lib.hid (heap_drop HR.out k9 (fun h => h))
  have KK := Lib.hid (KK.out.trans k9 (fun i hi h => by first | exact h.elim | omega))
  clear k9
  have cg : (w9.cell? ⟨w.heap.size + 1 + 1 + 1, 7, none⟩) = some (.int .u32 0) := cell_of HG.out 7
  have fg := frozen_of HG.out 7
  go_wp2
  obtain ⟨w4, e1, hg1, k1⟩ := GridAt.put' (s := (((rconsts.set 4 (wd ks 0)).set 5 (wd ks 1)).set 6 (wd ks 2))) HG.out 7 z (t := (((rconsts.set 4 (wd ks 0)).set 5 (wd ks 1)).set 6 (wd ks 2)).set 7 z) rfl
  rw [e1]
  have HK := Lib.hid (heap_drop HK.out k1 (by omega))
  have HN := Lib.hid (heap_drop HN.out k1 (by omega))
  have HR := Lib.hid (heap_drop HR.out k1 (by omega))
  have KK := Lib.hid (KK.out.trans k1 (fun i hi h => by first | exact h.elim | omega))
  have HG := Lib.hid hg1
  rw [HW.out] at HG
  clear e1 hg1 k1 cg fg HW
  rw [rounds_succ]
  obtain ⟨z, hz⟩ : ∃ z, z = wd ks 4 := ⟨_, rfl⟩
  have HW := Lib.hid hz
  clear hz
  go_wp2_with fail
  refine (word_at 22 _ _ _ ks 4 _ BK.out HK.out (by rw [KL.out]; decide) (by rfl)).mono ?_
  rintro e w9 ⟨rfl, k9⟩
  rw [← HW.out]
  have HG := Lib.hid (heap_drop HG.out k9 (fun h => h))
  have HK := Lib.hid (heap_drop HK.out k9 (fun h => h))
  have HN := Lib.hid (heap_drop HN.out k9 (fun h => h))
  have HR := Lib.hid (heap_drop HR.out k9 (fun h => h))
  have KK := Lib.hid (KK.out.trans k9 (fun i hi h => by first | exact h.elim | omega))
  clear k9
  have cg : (w9.cell? ⟨w.heap.size + 1 + 1 + 1, 8, none⟩) = some (.int .u32 0) := cell_of HG.out 8
  have fg := frozen_of HG.out 8
  go_wp2
  obtain ⟨w5, e1, hg1, k1⟩ := GridAt.put' (s := ((((rconsts.set 4 (wd ks 0)).set 5 (wd ks 1)).set 6 (wd ks 2)).set 7 (wd ks 3))) HG.out 8 z (t := ((((rconsts.set 4 (wd ks 0)).set 5 (wd ks 1)).set 6 (wd ks 2)).set 7 (wd ks 3)).set 8 z) rfl
  rw [e1]
  have HK := Lib.hid (heap_drop HK.out k1 (by omega))
  have HN := Lib.hid (heap_drop HN.out k1 (by omega))
  have HR := Lib.hid (heap_drop HR.out k1 (by omega))
  have KK := Lib.hid (KK.out.trans k1 (fun i hi h => by first | exact h.elim | omega))
  have HG := Lib.hid hg1
  rw [HW.out] at HG
  clear e1 hg1 k1 cg fg HW
  rw [rounds_succ]
  obtain ⟨z, hz⟩ : ∃ z, z = wd ks 5 := ⟨_, rfl⟩
  have HW := Lib.hid hz
  clear hz
  go_wp2_with fail
  refine (word_at 22 _ _ _ ks 5 _ BK.out HK.out (by rw [KL.out]; decide) (by rfl)).mono ?_
  rintro e w9 ⟨rfl, k9⟩
  rw [← HW.out]
  have HG := Lib.hid (heap_drop HG.out k9 (fun h => h))
  have HK := Lib.hid (heap_drop HK.out k9 (fun h => h))
  have HN := Lib.hid (heap_drop HN.out k9 (fun h => h))
  have HR := Lib.hid (heap_drop HR.out k9 (fun h => h))
  have KK := Lib.hid (KK.out.trans k9 (fun i hi h => by first | exact h.elim | omega))
  clear k9
  have cg : (w9.cell? ⟨w.heap.size + 1 + 1 + 1, 9, none⟩) = some (.int .u32 0) := cell_of HG.out 9
  have fg := frozen_of HG.out 9
  go_wp2
  obtain ⟨w6, e1, hg1, k1⟩ := GridAt.put' (s := (((((rconsts.set 4 (wd ks 0)).set 5 (wd ks 1)).set 6 (wd ks 2)).set 7 (wd ks 3)).set 8 (wd ks 4))) HG.out 9 z (t := (((((rconsts.set 4 (wd ks 0)).set 5 (wd ks 1)).set 6 (wd ks 2)).set 7 (wd ks 3)).set 8 (wd ks 4)).set 9 z) rfl
  rw [e1]
  have HK := Lib.hid (heap_drop HK.out k1 (by omega))
  have HN := Lib.hid (heap_drop HN.out k1 (by omega))
  have HR := Lib.hid (heap_drop HR.out k1 (by omega))
  have KK := Lib.hid (KK.out.trans k1 (fun i hi h => by first | exact h.elim | omega))
  have HG := Lib.hid hg1
  rw [HW.out] at HG
  clear e1 hg1 k1 cg fg HW
  rw [rounds_succ]
  obtain ⟨z, hz⟩ : ∃ z, z = wd ks 6 := ⟨_, rfl⟩
  have HW := Lib.hid hz
  clear hz
  go_wp2_with fail
  refine (word_at 22 _ _ _ ks 6 _ BK.out HK.out (by rw [KL.out]; decide) (by rfl)).mono ?_
  rintro e w9 ⟨rfl, k9⟩
  rw [← HW.out]
  have HG := Lib.hid (heap_drop HG.out k9 (fun h => h))
  have HK := Lib.hid (heap_drop HK.out k9 (fun h => h))
  have HN := Lib.hid (heap_drop HN.out k9 (fun h => h))
  have HR := Lib.hid (heap_drop HR.out k9 (fun h => h))
  have KK := Lib.hid (KK.out.trans k9 (fun i hi h => by first | exact h.elim | omega))
  clear k9
  have cg : (w9.cell? ⟨w.heap.size + 1 + 1 + 1, 10, none⟩) = some (.int .u32 0) := cell_of HG.out 10
  have fg := frozen_of HG.out 10
  go_wp2
  obtain ⟨w7, e1, hg1, k1⟩ := GridAt.put' (s := ((((((rconsts.set 4 (wd ks 0)).set 5 (wd ks 1)).set 6 (wd ks 2)).set 7 (wd ks 3)).set 8 (wd ks 4)).set 9 (wd ks 5))) HG.out 10 z (t := ((((((rconsts.set 4 (wd ks 0)).set 5 (wd ks 1)).set 6 (wd ks 2)).set 7 (wd ks 3)).set 8 (wd ks 4)).set 9 (wd ks 5)).set 10 z) rfl
  rw [e1]
  have HK := Lib.hid (heap_drop HK.out k1 (by omega))
  have HN := Lib.hid (heap_drop HN.out k1 (by omega))
  have HR := Lib.hid (heap_drop HR.out k1 (by omega))
  have KK := Lib.hid (KK.out.trans k1 (fun i hi h => by first | exact h.elim | omega))
  have HG := Lib.hid hg1
  rw [HW.out] at HG
  clear e1 hg1 k1 cg fg HW
  rw [rounds_succ]
  obtain ⟨z, hz⟩ : ∃ z, z = wd ks 7 := ⟨_, rfl⟩
  have HW := Lib.hid hz
  clear hz
  go_wp2_with fail
  refine (word_at 22 _ _ _ ks 7 _ BK.out HK.out (by rw [KL.out]; decide) (by rfl)).mono ?_
  rintro e w9 ⟨rfl, k9⟩
  rw [← HW.out]
  have HG := Lib.hid (heap_drop HG.out k9 (fun h => h))
  have HK := Lib.hid (heap_drop HK.out k9 (fun h => h))
  have HN := Lib.hid (heap_drop HN.out k9 (fun h => h))
  have HR := Lib.hid (heap_drop HR.out k9 (fun h => h))
  have KK := Lib.hid (KK.out.trans k9 (fun i hi h => by first | exact h.elim | omega))
  clear k9
  have cg : (w9.cell? ⟨w.heap.size + 1 + 1 + 1, 11, none⟩) = some (.int .u32 0) := cell_of HG.out 11
  have fg := frozen_of HG.out 11
  go_wp2
  obtain ⟨w8, e1, hg1, k1⟩ := GridAt.put' (s := (((((((rconsts.set 4 (wd ks 0)).set 5 (wd ks 1)).set 6 (wd ks 2)).set 7 (wd ks 3)).set 8 (wd ks 4)).set 9 (wd ks 5)).set 10 (wd ks 6))) HG.out 11 z (t := (((((((rconsts.set 4 (wd ks 0)).set 5 (wd ks 1)).set 6 (wd ks 2)).set 7 (wd ks 3)).set 8 (wd ks 4)).set 9 (wd ks 5)).set 10 (wd ks 6)).set 11 z) rfl
  rw [e1]
  have HK := Lib.hid (heap_drop HK.out k1 (by omega))
  have HN := Lib.hid (heap_drop HN.out k1 (by omega))
  have HR := Lib.hid (heap_drop HR.out k1 (by omega))
  have KK := Lib.hid (KK.out.trans k1 (fun i hi h => by first | exact h.elim | omega))
  have HG := Lib.hid hg1
  rw [HW.out] at HG
  clear e1 hg1 k1 cg fg HW
  rw [rounds_succ]
  have cg : (w8.cell? ⟨w.heap.size + 1 + 1 + 1, 12, none⟩) = some (.int .u32 0) := cell_of HG.out 12
  have fg := frozen_of HG.out 12
  go_wp2
  obtain ⟨wc, e1, hg1, k1⟩ := GridAt.put' (s := ((((((((rconsts.set 4 (wd ks 0)).set 5 (wd ks 1)).set 6 (wd ks 2)).set 7 (wd ks 3)).set 8 (wd ks 4)).set 9 (wd ks 5)).set 10 (wd ks 6)).set 11 (wd ks 7))) HG.out 12 c (t := ((((((((rconsts.set 4 (wd ks 0)).set 5 (wd ks 1)).set 6 (wd ks 2)).set 7 (wd ks 3)).set 8 (wd ks 4)).set 9 (wd ks 5)).set 10 (wd ks 6)).set 11 (wd ks 7)).set 12 c) rfl
  rw [e1]
  have HK := Lib.hid (heap_drop HK.out k1 (by omega))
  have HN := Lib.hid (heap_drop HN.out k1 (by omega))
  have HR := Lib.hid (heap_drop HR.out k1 (by omega))
  have KK := Lib.hid (KK.out.trans k1 (fun i hi h => by first | exact h.elim | omega))
  have HG := Lib.hid hg1
  clear e1 hg1 k1 cg fg
  refine wp_loop_rounds 4 ?_
  rw [rounds_succ]
  obtain ⟨z, hz⟩ : ∃ z, z = wd ns 0 := ⟨_, rfl⟩
  have HW := Lib.hid hz
  clear hz
  go_wp2_with fail
  refine (word_at 29 _ _ _ ns 0 _ BN.out HN.out (by rw [NL.out]; decide) (by rfl)).mono ?_
  rintro e w9 ⟨rfl, k9⟩
  rw [← HW.out]
  have HG := Lib.hid (heap_drop HG.out k9 (fun h => h))
  have HK := Lib.hid (heap_drop HK.out k9 (fun h => h))
  have HN := Lib.hid (heap_drop HN.out k9 (fun h => h))
  have HR := Lib.hid (heap_drop HR.out k9 (fun h => h))
  have KK := Lib.hid (KK.out.trans k9 (fun i hi h => by first | exact h.elim | omega))
  clear k9
  have cg : (w9.cell? ⟨w.heap.size + 1 + 1 + 1, 13, none⟩) = some (.int .u32 0) := cell_of HG.out 13
  have fg := frozen_of HG.out 13
  go_wp2
  obtain ⟨w9, e1, hg1, k1⟩ := GridAt.put' (s := (((((((((rconsts.set 4 (wd ks 0)).set 5 (wd ks 1)).set 6 (wd ks 2)).set 7 (wd ks 3)).set 8 (wd ks 4)).set 9 (wd ks 5)).set 10 (wd ks 6)).set 11 (wd ks 7)).set 12 c)) HG.out 13 z (t := (((((((((rconsts.set 4 (wd ks 0)).set 5 (wd ks 1)).set 6 (wd ks 2)).set 7 (wd ks 3)).set 8 (wd ks 4)).set 9 (wd ks 5)).set 10 (wd ks 6)).set 11 (wd ks 7)).set 12 c).set 13 z) rfl
  rw [e1]
  have HK := Lib.hid (heap_drop HK.out k1 (by omega))
  have HN := Lib.hid (heap_drop HN.out k1 (by omega))
  have HR := Lib.hid (heap_drop HR.out k1 (by omega))
  have KK := Lib.hid (KK.out.trans k1 (fun i hi h => by first | exact h.elim | omega))
  have HG := Lib.hid hg1
  rw [HW.out] at HG
  clear e1 hg1 k1 cg fg HW
  rw [rounds_succ]
  obtain ⟨z, hz⟩ : ∃ z, z = wd ns 1 := ⟨_, rfl⟩
  have HW := Lib.hid hz
  clear hz
  go_wp2_with fail
  refine (word_at 29 _ _ _ ns 1 _ BN.out HN.out (by rw [NL.out]; decide) (by rfl)).mono ?_
  rintro e w9 ⟨rfl, k9⟩
  rw [← HW.out]
  have HG := Lib.hid (heap_drop HG.out k9 (fun h => h))
  have HK := Lib.hid (heap_drop HK.out k9 (fun h => h))
  have HN := Lib.hid (heap_drop HN.out k9 (fun h => h))
  have HR := Lib.hid (heap_drop HR.out k9 (fun h => h))
  have KK := Lib.hid (KK.out.trans k9 (fun i hi h => by first | exact h.elim | omega))
  clear k9
  have cg : (w9.cell? ⟨w.heap.size + 1 + 1 + 1, 14, none⟩) = some (.int .u32 0) := cell_of HG.out 14
  have fg := frozen_of HG.out 14
  go_wp2
  obtain ⟨w10, e1, hg1, k1⟩ := GridAt.put' (s := ((((((((((rconsts.set 4 (wd ks 0)).set 5 (wd ks 1)).set 6 (wd ks 2)).set 7 (wd ks 3)).set 8 (wd ks 4)).set 9 (wd ks 5)).set 10 (wd ks 6)).set 11 (wd ks 7)).set 12 c).set 13 (wd ns 0))) HG.out 14 z (t := ((((((((((rconsts.set 4 (wd ks 0)).set 5 (wd ks 1)).set 6 (wd ks 2)).set 7 (wd ks 3)).set 8 (wd ks 4)).set 9 (wd ks 5)).set 10 (wd ks 6)).set 11 (wd ks 7)).set 12 c).set 13 (wd ns 0)).set 14 z) rfl
  rw [e1]
  have HK := Lib.hid (heap_drop HK.out k1 (by omega))
  have HN := Lib.hid (heap_drop HN.out k1 (by omega))
  have HR := Lib.hid (heap_drop HR.out k1 (by omega))
  have KK := Lib.hid (KK.out.trans k1 (fun i hi h => by first | exact h.elim | omega))
  have HG := Lib.hid hg1
  rw [HW.out] at HG
  clear e1 hg1 k1 cg fg HW
  rw [rounds_succ]
  obtain ⟨z, hz⟩ : ∃ z, z = wd ns 2 := ⟨_, rfl⟩
  have HW := Lib.hid hz
  clear hz
  go_wp2_with fail
  refine (word_at 29 _ _ _ ns 2 _ BN.out HN.out (by rw [NL.out]; decide) (by rfl)).mono ?_
  rintro e w9 ⟨rfl, k9⟩
  rw [← HW.out]
  have HG := Lib.hid (heap_drop HG.out k9 (fun h => h))
  have HK := Lib.hid (heap_drop HK.out k9 (fun h => h))
  have HN := Lib.hid (heap_drop HN.out k9 (fun h => h))
  have HR := Lib.hid (heap_drop HR.out k9 (fun h => h))
  have KK := Lib.hid (KK.out.trans k9 (fun i hi h => by first | exact h.elim | omega))
  clear k9
  have cg : (w9.cell? ⟨w.heap.size + 1 + 1 + 1, 15, none⟩) = some (.int .u32 0) := cell_of HG.out 15
  have fg := frozen_of HG.out 15
  go_wp2
  obtain ⟨w11, e1, hg1, k1⟩ := GridAt.put' (s := (((((((((((rconsts.set 4 (wd ks 0)).set 5 (wd ks 1)).set 6 (wd ks 2)).set 7 (wd ks 3)).set 8 (wd ks 4)).set 9 (wd ks 5)).set 10 (wd ks 6)).set 11 (wd ks 7)).set 12 c).set 13 (wd ns 0)).set 14 (wd ns 1))) HG.out 15 z (t := (((((((((((rconsts.set 4 (wd ks 0)).set 5 (wd ks 1)).set 6 (wd ks 2)).set 7 (wd ks 3)).set 8 (wd ks 4)).set 9 (wd ks 5)).set 10 (wd ks 6)).set 11 (wd ks 7)).set 12 c).set 13 (wd ns 0)).set 14 (wd ns 1)).set 15 z) rfl
  rw [e1]
  have HK := Lib.hid (heap_drop HK.out k1 (by omega))
  have HN := Lib.hid (heap_drop HN.out k1 (by omega))
  have HR := Lib.hid (heap_drop HR.out k1 (by omega))
  have KK := Lib.hid (KK.out.trans k1 (fun i hi h => by first | exact h.elim | omega))
  have HG := Lib.hid hg1
  rw [HW.out] at HG
  clear e1 hg1 k1 cg fg HW
  rw [rounds_succ]
  have HA : Hid (GridAt w11 43 (w.heap.size + 1 + 1 + 1) (startG ks ns c)) := HG
  rw [ES0.out] at HA
  clear HG HK HN
  go_wp2_with (first
    | (refine wpList_load_row rfl 43 _ rfl (w.heap.size + 1 + 1 + 1) rfl 43 (words s) (0, 0) _ HA.out Try.underlying43 rfl (grid_row (w := w11) (g := 0) SW.out) ?_)
    | (refine wpList_store_row rfl 43 _ _ rfl w11.heap.size (s.map (Value.int .u32)) rfl rfl 43 _ (heap_new_at w11 _ _ rfl) (by rw [List.length_map, SW.out.1]; rfl) (grid_row' SW.out) (words_one s) ?_; intro wd hgd kd; have HG : Hid (GridAt wd 43 w11.heap.size s) := Lib.hid hgd; have KD := Lib.hid kd; clear hgd kd))
  have zd : w.heap.size + 1 + 1 + 1 < w11.heap.size := heap_lt HA.out
  have HA := Lib.hid (heap_drop ((heap_old_at _ _ _ zd).trans HA.out) KD.out (by omega))
  have HR := Lib.hid (heap_drop ((heap_old_at _ _ _ (by omega)).trans HR.out) KD.out (by omega))
  have KK := Lib.hid ((KK.out.trans (Keeps.alloc w11 _ (fun k => w.heap.size ≤ k)) (fun i hi h => h)).trans KD.out (fun i hi h => by omega))
  obtain ⟨G, hG⟩ : ∃ G, G = w11.heap.size := ⟨_, rfl⟩
  rw [← hG] at HG zd
  rw [← hG]
  clear KD hG
  go_loopw [11] (fun i wr => ∃ k : Nat, k ≤ 10 ∧ i = .int .i64 k ∧ GridAt wr 43 G (iterD k s) ∧ Keeps wd wr (fun j => j = G)) (fun i _ => 10 - (intOf i).toNat)
  case atStart => exact ⟨0, Nat.zero_le _, rfl, HG.out, Keeps.refl _ _⟩
  case round =>
    obtain ⟨k, hk, rfl, hg, hkp⟩ := hrel
    have HG := Lib.hid hg
    have HP := Lib.hid hkp
    clear hg hkp
    by_cases hlt : k < 10
    · obtain ⟨s0, hs0⟩ : ∃ t, t = iterD k s := ⟨_, rfl⟩
      rw [← hs0] at HG
      have SW0 : Hid (Words s0) := Lib.hid (by rw [hs0]; exact SW.out.iterD k)
      have ES := Lib.hid hs0
      clear hs0
      go_wp2_with (refine wpList_load_row rfl 43 _ rfl G rfl 43 (words s0) (0, 0) _ HG.out Try.underlying43 rfl (grid_row (w := wd) (g := 0) SW0.out) ?_)
      refine (rquarter_lit 0 4 8 12 _ _ _ _ (by rfl) (by rfl) (by rfl) (by rfl) (by decide) (by decide) (by decide) (by decide) s0 _ SW0.out).mono ?_
      rintro e v0 ⟨rfl, b1⟩
      obtain ⟨s1, e1⟩ : ∃ t, t = qr s0 0 4 8 12 := ⟨_, rfl⟩
      rw [← e1]
      have SW1 : Hid (Words s1) := Lib.hid (by rw [e1]; exact SW0.out.qr (by decide) (by decide) (by decide) (by decide))
      have E1 := Lib.hid e1
      have HG : Hid (v0.heap[G]? = some (.cells (words s0) 43 (0, 0))) := Lib.hid ((b1.block _ (heap_lt HG.out)).trans HG.out)
      have HP := Lib.hid (HP.out.trans (Keeps.of_below (S := fun j => j = G) b1) (fun i hi h => h))
      clear b1 e1
      go_wp2_with (first | (refine wpList_store_row rfl 43 _ _ rfl G (s1.map (Value.int .u32)) rfl rfl 43 _ HG.out (by rw [List.length_map, SW1.out.1]; simp [words, SW0.out.1]) (grid_row' SW1.out) (words_one _) ?_; intro u0 hgd kd; have HG : Hid (GridAt u0 43 G s1) := Lib.hid hgd; have HP := Lib.hid (HP.out.trans kd (fun i hi h => h)); clear hgd kd) | (refine wpList_load_row rfl 43 _ rfl G rfl 43 (words s1) (0, 0) _ HG.out Try.underlying43 rfl (grid_row (w := wd) (g := 0) SW1.out) ?_))
      refine (rquarter_lit 1 5 9 13 _ _ _ _ (by rfl) (by rfl) (by rfl) (by rfl) (by decide) (by decide) (by decide) (by decide) s1 _ SW1.out).mono ?_
      rintro e v1 ⟨rfl, b1⟩
      obtain ⟨s2, e1⟩ : ∃ t, t = qr s1 1 5 9 13 := ⟨_, rfl⟩
      rw [← e1]
      have SW2 : Hid (Words s2) := Lib.hid (by rw [e1]; exact SW1.out.qr (by decide) (by decide) (by decide) (by decide))
      have E2 := Lib.hid e1
      have HG : Hid (v1.heap[G]? = some (.cells (words s1) 43 (0, 0))) := Lib.hid ((b1.block _ (heap_lt HG.out)).trans HG.out)
      have HP := Lib.hid (HP.out.trans (Keeps.of_below (S := fun j => j = G) b1) (fun i hi h => h))
      clear b1 e1
      go_wp2_with (first | (refine wpList_store_row rfl 43 _ _ rfl G (s2.map (Value.int .u32)) rfl rfl 43 _ HG.out (by rw [List.length_map, SW2.out.1]; simp [words, SW1.out.1]) (grid_row' SW2.out) (words_one _) ?_; intro u1 hgd kd; have HG : Hid (GridAt u1 43 G s2) := Lib.hid hgd; have HP := Lib.hid (HP.out.trans kd (fun i hi h => h)); clear hgd kd) | (refine wpList_load_row rfl 43 _ rfl G rfl 43 (words s2) (0, 0) _ HG.out Try.underlying43 rfl (grid_row (w := wd) (g := 0) SW2.out) ?_))
      refine (rquarter_lit 2 6 10 14 _ _ _ _ (by rfl) (by rfl) (by rfl) (by rfl) (by decide) (by decide) (by decide) (by decide) s2 _ SW2.out).mono ?_
      rintro e v2 ⟨rfl, b1⟩
      obtain ⟨s3, e1⟩ : ∃ t, t = qr s2 2 6 10 14 := ⟨_, rfl⟩
      rw [← e1]
      have SW3 : Hid (Words s3) := Lib.hid (by rw [e1]; exact SW2.out.qr (by decide) (by decide) (by decide) (by decide))
      have E3 := Lib.hid e1
      have HG : Hid (v2.heap[G]? = some (.cells (words s2) 43 (0, 0))) := Lib.hid ((b1.block _ (heap_lt HG.out)).trans HG.out)
      have HP := Lib.hid (HP.out.trans (Keeps.of_below (S := fun j => j = G) b1) (fun i hi h => h))
      clear b1 e1
      go_wp2_with (first | (refine wpList_store_row rfl 43 _ _ rfl G (s3.map (Value.int .u32)) rfl rfl 43 _ HG.out (by rw [List.length_map, SW3.out.1]; simp [words, SW2.out.1]) (grid_row' SW3.out) (words_one _) ?_; intro u2 hgd kd; have HG : Hid (GridAt u2 43 G s3) := Lib.hid hgd; have HP := Lib.hid (HP.out.trans kd (fun i hi h => h)); clear hgd kd) | (refine wpList_load_row rfl 43 _ rfl G rfl 43 (words s3) (0, 0) _ HG.out Try.underlying43 rfl (grid_row (w := wd) (g := 0) SW3.out) ?_))
      refine (rquarter_lit 3 7 11 15 _ _ _ _ (by rfl) (by rfl) (by rfl) (by rfl) (by decide) (by decide) (by decide) (by decide) s3 _ SW3.out).mono ?_
      rintro e v3 ⟨rfl, b1⟩
      obtain ⟨s4, e1⟩ : ∃ t, t = qr s3 3 7 11 15 := ⟨_, rfl⟩
      rw [← e1]
      have SW4 : Hid (Words s4) := Lib.hid (by rw [e1]; exact SW3.out.qr (by decide) (by decide) (by decide) (by decide))
      have E4 := Lib.hid e1
      have HG : Hid (v3.heap[G]? = some (.cells (words s3) 43 (0, 0))) := Lib.hid ((b1.block _ (heap_lt HG.out)).trans HG.out)
      have HP := Lib.hid (HP.out.trans (Keeps.of_below (S := fun j => j = G) b1) (fun i hi h => h))
      clear b1 e1
      go_wp2_with (first | (refine wpList_store_row rfl 43 _ _ rfl G (s4.map (Value.int .u32)) rfl rfl 43 _ HG.out (by rw [List.length_map, SW4.out.1]; simp [words, SW3.out.1]) (grid_row' SW4.out) (words_one _) ?_; intro u3 hgd kd; have HG : Hid (GridAt u3 43 G s4) := Lib.hid hgd; have HP := Lib.hid (HP.out.trans kd (fun i hi h => h)); clear hgd kd) | (refine wpList_load_row rfl 43 _ rfl G rfl 43 (words s4) (0, 0) _ HG.out Try.underlying43 rfl (grid_row (w := wd) (g := 0) SW4.out) ?_))
      refine (rquarter_lit 0 5 10 15 _ _ _ _ (by rfl) (by rfl) (by rfl) (by rfl) (by decide) (by decide) (by decide) (by decide) s4 _ SW4.out).mono ?_
      rintro e v4 ⟨rfl, b1⟩
      obtain ⟨s5, e1⟩ : ∃ t, t = qr s4 0 5 10 15 := ⟨_, rfl⟩
      rw [← e1]
      have SW5 : Hid (Words s5) := Lib.hid (by rw [e1]; exact SW4.out.qr (by decide) (by decide) (by decide) (by decide))
      have E5 := Lib.hid e1
      have HG : Hid (v4.heap[G]? = some (.cells (words s4) 43 (0, 0))) := Lib.hid ((b1.block _ (heap_lt HG.out)).trans HG.out)
      have HP := Lib.hid (HP.out.trans (Keeps.of_below (S := fun j => j = G) b1) (fun i hi h => h))
      clear b1 e1
      go_wp2_with (first | (refine wpList_store_row rfl 43 _ _ rfl G (s5.map (Value.int .u32)) rfl rfl 43 _ HG.out (by rw [List.length_map, SW5.out.1]; simp [words, SW4.out.1]) (grid_row' SW5.out) (words_one _) ?_; intro u4 hgd kd; have HG : Hid (GridAt u4 43 G s5) := Lib.hid hgd; have HP := Lib.hid (HP.out.trans kd (fun i hi h => h)); clear hgd kd) | (refine wpList_load_row rfl 43 _ rfl G rfl 43 (words s5) (0, 0) _ HG.out Try.underlying43 rfl (grid_row (w := wd) (g := 0) SW5.out) ?_))
      refine (rquarter_lit 1 6 11 12 _ _ _ _ (by rfl) (by rfl) (by rfl) (by rfl) (by decide) (by decide) (by decide) (by decide) s5 _ SW5.out).mono ?_
      rintro e v5 ⟨rfl, b1⟩
      obtain ⟨s6, e1⟩ : ∃ t, t = qr s5 1 6 11 12 := ⟨_, rfl⟩
      rw [← e1]
      have SW6 : Hid (Words s6) := Lib.hid (by rw [e1]; exact SW5.out.qr (by decide) (by decide) (by decide) (by decide))
      have E6 := Lib.hid e1
      have HG : Hid (v5.heap[G]? = some (.cells (words s5) 43 (0, 0))) := Lib.hid ((b1.block _ (heap_lt HG.out)).trans HG.out)
      have HP := Lib.hid (HP.out.trans (Keeps.of_below (S := fun j => j = G) b1) (fun i hi h => h))
      clear b1 e1
      go_wp2_with (first | (refine wpList_store_row rfl 43 _ _ rfl G (s6.map (Value.int .u32)) rfl rfl 43 _ HG.out (by rw [List.length_map, SW6.out.1]; simp [words, SW5.out.1]) (grid_row' SW6.out) (words_one _) ?_; intro u5 hgd kd; have HG : Hid (GridAt u5 43 G s6) := Lib.hid hgd; have HP := Lib.hid (HP.out.trans kd (fun i hi h => h)); clear hgd kd) | (refine wpList_load_row rfl 43 _ rfl G rfl 43 (words s6) (0, 0) _ HG.out Try.underlying43 rfl (grid_row (w := wd) (g := 0) SW6.out) ?_))
      refine (rquarter_lit 2 7 8 13 _ _ _ _ (by rfl) (by rfl) (by rfl) (by rfl) (by decide) (by decide) (by decide) (by decide) s6 _ SW6.out).mono ?_
      rintro e v6 ⟨rfl, b1⟩
      obtain ⟨s7, e1⟩ : ∃ t, t = qr s6 2 7 8 13 := ⟨_, rfl⟩
      rw [← e1]
      have SW7 : Hid (Words s7) := Lib.hid (by rw [e1]; exact SW6.out.qr (by decide) (by decide) (by decide) (by decide))
      have E7 := Lib.hid e1
      have HG : Hid (v6.heap[G]? = some (.cells (words s6) 43 (0, 0))) := Lib.hid ((b1.block _ (heap_lt HG.out)).trans HG.out)
      have HP := Lib.hid (HP.out.trans (Keeps.of_below (S := fun j => j = G) b1) (fun i hi h => h))
      clear b1 e1
      go_wp2_with (first | (refine wpList_store_row rfl 43 _ _ rfl G (s7.map (Value.int .u32)) rfl rfl 43 _ HG.out (by rw [List.length_map, SW7.out.1]; simp [words, SW6.out.1]) (grid_row' SW7.out) (words_one _) ?_; intro u6 hgd kd; have HG : Hid (GridAt u6 43 G s7) := Lib.hid hgd; have HP := Lib.hid (HP.out.trans kd (fun i hi h => h)); clear hgd kd) | (refine wpList_load_row rfl 43 _ rfl G rfl 43 (words s7) (0, 0) _ HG.out Try.underlying43 rfl (grid_row (w := wd) (g := 0) SW7.out) ?_))
      refine (rquarter_lit 3 4 9 14 _ _ _ _ (by rfl) (by rfl) (by rfl) (by rfl) (by decide) (by decide) (by decide) (by decide) s7 _ SW7.out).mono ?_
      rintro e v7 ⟨rfl, b1⟩
      obtain ⟨s8, e1⟩ : ∃ t, t = qr s7 3 4 9 14 := ⟨_, rfl⟩
      rw [← e1]
      have SW8 : Hid (Words s8) := Lib.hid (by rw [e1]; exact SW7.out.qr (by decide) (by decide) (by decide) (by decide))
      have E8 := Lib.hid e1
      have HG : Hid (v7.heap[G]? = some (.cells (words s7) 43 (0, 0))) := Lib.hid ((b1.block _ (heap_lt HG.out)).trans HG.out)
      have HP := Lib.hid (HP.out.trans (Keeps.of_below (S := fun j => j = G) b1) (fun i hi h => h))
      clear b1 e1
      go_wp2_with (first | (refine wpList_store_row rfl 43 _ _ rfl G (s8.map (Value.int .u32)) rfl rfl 43 _ HG.out (by rw [List.length_map, SW8.out.1]; simp [words, SW7.out.1]) (grid_row' SW8.out) (words_one _) ?_; intro u7 hgd kd; have HG : Hid (GridAt u7 43 G s8) := Lib.hid hgd; have HP := Lib.hid (HP.out.trans kd (fun i hi h => h)); clear hgd kd))
      go_roundw
      case rel => exact ⟨k + 1, by omega, by go_num, by have h := HG.out; rw [E8.out, E7.out, E6.out, E5.out, E4.out, E3.out, E2.out, E1.out, ES.out] at h; exact h, HP.out⟩
      case measure => simp [intOf]; omega
    · obtain rfl : k = 10 := by omega
      rw [show ((10 : Nat) : Int) = 10 from rfl]
      have HR := Lib.hid (heap_drop HR.out HP.out (by omega))
      have HA := Lib.hid (heap_drop HA.out HP.out (by omega))
      have KK := Lib.hid (KK.out.trans HP.out (fun i hi h => by omega))
      have zr : G + 1 ≤ wr.heap.size := by have := heap_lt HG.out; omega
      have WG := Lib.hid (SW.out.iterD 10)
      obtain ⟨g, hg⟩ : ∃ g, iterD 10 s = g := ⟨_, rfl⟩
      rw [hg] at HG WG
      have EG := Lib.hid hg
      clear HP hg
      go_wp2
      obtain ⟨w5, e1⟩ : ∃ w5, wr.alloc (.cells #[.int .u8 0, .int .u8 0, .int .u8 0, .int .u8 0, .int .u8 0, .int .u8 0, .int .u8 0, .int .u8 0, .int .u8 0, .int .u8 0, .int .u8 0, .int .u8 0, .int .u8 0, .int .u8 0, .int .u8 0, .int .u8 0, .int .u8 0, .int .u8 0, .int .u8 0, .int .u8 0, .int .u8 0, .int .u8 0, .int .u8 0, .int .u8 0, .int .u8 0, .int .u8 0, .int .u8 0, .int .u8 0, .int .u8 0, .int .u8 0, .int .u8 0, .int .u8 0, .int .u8 0, .int .u8 0, .int .u8 0, .int .u8 0, .int .u8 0, .int .u8 0, .int .u8 0, .int .u8 0, .int .u8 0, .int .u8 0, .int .u8 0, .int .u8 0, .int .u8 0, .int .u8 0, .int .u8 0, .int .u8 0, .int .u8 0, .int .u8 0, .int .u8 0, .int .u8 0, .int .u8 0, .int .u8 0, .int .u8 0, .int .u8 0, .int .u8 0, .int .u8 0, .int .u8 0, .int .u8 0, .int .u8 0, .int .u8 0, .int .u8 0, .int .u8 0] 32) = w5 := ⟨_, rfl⟩
      rw [e1]
      have HO : Hid (BytesAt w5 32 wr.heap.size (outR g s 0)) := Lib.hid (by rw [← e1]; exact heap_new_at _ _ _ rfl)
      have HR := Lib.hid ((show w5.heap[w.heap.size + 1 + 1]? = _ from e1 ▸ (heap_old_at wr _ _ (by omega))).trans HR.out)
      have HA : Hid (GridAt w5 43 (w.heap.size + 1 + 1 + 1) s) := Lib.hid ((show w5.heap[w.heap.size + 1 + 1 + 1]? = _ from e1 ▸ (heap_old_at wr _ _ (by omega))).trans HA.out)
      have HG : Hid (GridAt w5 43 G g) := Lib.hid ((show w5.heap[G]? = _ from e1 ▸ (heap_old_at wr _ _ (by omega))).trans HG.out)
      have KK : Hid (Keeps w w5 (fun k => w.heap.size ≤ k)) := Lib.hid (by rw [← e1]; exact KK.out.trans (Keeps.alloc wr _ (fun k => w.heap.size ≤ k)) (fun i hi h => h))
      obtain ⟨O, hO⟩ : ∃ O, O = wr.heap.size := ⟨_, rfl⟩
      rw [← hO] at HO zr
      rw [← hO]
      clear e1 hO
      go_loopw [13] (fun i wz => ∃ k : Nat, k ≤ 64 ∧ i = .int .i64 k ∧ BytesAt wz 32 O (outR g s k) ∧ Keeps w5 wz (fun j => j = O)) (fun i _ => 64 - (intOf i).toNat)
      case atStart => exact ⟨0, Nat.zero_le _, rfl, HO.out, Keeps.refl _ _⟩
      case round =>
        obtain ⟨k, hk, rfl, hb, hkp⟩ := hrel
        have HB := Lib.hid hb
        have HP := Lib.hid hkp
        clear hb hkp
        have HG' : Hid (GridAt wr 43 G g) := Lib.hid (heap_drop HG.out HP.out (by omega))
        have HA' : Hid (GridAt wr 43 (w.heap.size + 1 + 1 + 1) s) := Lib.hid (heap_drop HA.out HP.out (by omega))
        by_cases hlt : k < 64
        · obtain ⟨q, hq⟩ : ∃ q, q = k / 4 := ⟨_, rfl⟩
          have hq16 : q < 16 := by omega
          obtain ⟨xa, XA, ⟨xa0, xa1⟩, ca, _⟩ := HG'.out.at_ WG.out hq16
          obtain ⟨xb, XB, ⟨xb0, xb1⟩, cb, _⟩ := HA'.out.at_ SW.out hq16
          obtain ⟨co, fo⟩ := HB.out.at_ (i := k) (by rw [outR_length]; omega)
          obtain ⟨yo, hyo⟩ : ∃ y, (outR g s k).getD k 0 = y := ⟨_, rfl⟩
          rw [hyo] at co
          have ik0 : (0 : Int) ≤ (k : Int) := by omega
          have ik1 : (k : Int) < 64 := by omega
          have iq0 : (0 : Int) ≤ (q : Int) := by omega
          have iq1 : (q : Int) < 16 := by omega
          obtain ⟨z, hz⟩ : ∃ z, z = addw xa xb := ⟨_, rfl⟩
          have m9 : IntKind.u32.wrap (xa + xb) = z := by rw [hz, IntKind.wrap_u32]; rfl
          obtain ⟨z0, z1⟩ : Word z := by rw [hz]; exact addw_word _ _
          have HQ := Lib.hid hq
          have HZ := Lib.hid hz
          have hr : k % 4 = 0 ∨ k % 4 = 1 ∨ k % 4 = 2 ∨ k % 4 = 3 := by omega
          have m1 : IntKind.i64.wrap ((k : Int) / 4) = (q : Int) := by rw [IntWalk.i64_in _ (by omega)]; omega
          clear hq hz hyo
          rcases hr with hr | hr | hr | hr
          · have m2 : (k : Int).tmod 4 = 0 := by rw [IntWalk.rem_in _ _ (by omega)]; omega
            have HM : Hid (k % 4 = 0) := Lib.hid hr
            have m5 : (k : Int) % 4 = 0 := by omega
            have m6 : IntKind.i64.wrap 0 = 0 := by decide
            have m7 : IntKind.u32.wrap 0 = 0 := by decide
            have m3 : IntKind.u8.wrap z = z % 256 := IntKind.wrap_u8 z
            clear hr
            go_wp2
            go_still_tail 17, (by kernel_rfl)
            change wpList _ _ _ _ _ (World.drew _)
            go_wp2
            obtain ⟨w6, e6, hb6, k6⟩ := HB.out.putd k (z % 256) (zs := outR g s (k + 1)) (by show (outR g s k).set k (byteOf (addw (g.getD (k / 4) 0) (s.getD (k / 4) 0)) (k % 4)) = _; rw [HM.out, ← HQ.out, ← XA.out, ← XB.out, ← HZ.out]; rfl)
            rw [e6]
            have HB6 := Lib.hid hb6
            have HP6 := Lib.hid (HP.out.trans k6 (fun i hi h => h))
            clear e6 hb6 k6 m1 m2 m3 m5 m6 m7 m9 ca cb co fo
            go_roundw
            case rel => exact ⟨k + 1, by omega, by go_num, HB6.out, HP6.out⟩
            case measure => simp [intOf]; omega
          · have m2 : (k : Int).tmod 4 = 1 := by rw [IntWalk.rem_in _ _ (by omega)]; omega
            have HM : Hid (k % 4 = 1) := Lib.hid hr
            have m5 : (k : Int) % 4 = 1 := by omega
            have m6 : IntKind.i64.wrap 8 = 8 := by decide
            have m7 : IntKind.u32.wrap 8 = 8 := by decide
            have m3 : IntKind.u8.wrap (z / 256) = z / 256 % 256 := IntKind.wrap_u8 _
            clear hr
            go_wp2
            go_still_tail 17, (by kernel_rfl)
            change wpList _ _ _ _ _ (World.drew _)
            go_wp2
            obtain ⟨w6, e6, hb6, k6⟩ := HB.out.putd k (z / 256 % 256) (zs := outR g s (k + 1)) (by show (outR g s k).set k (byteOf (addw (g.getD (k / 4) 0) (s.getD (k / 4) 0)) (k % 4)) = _; rw [HM.out, ← HQ.out, ← XA.out, ← XB.out, ← HZ.out]; rfl)
            rw [e6]
            have HB6 := Lib.hid hb6
            have HP6 := Lib.hid (HP.out.trans k6 (fun i hi h => h))
            clear e6 hb6 k6 m1 m2 m3 m5 m6 m7 m9 ca cb co fo
            go_roundw
            case rel => exact ⟨k + 1, by omega, by go_num, HB6.out, HP6.out⟩
            case measure => simp [intOf]; omega
          · have m2 : (k : Int).tmod 4 = 2 := by rw [IntWalk.rem_in _ _ (by omega)]; omega
            have HM : Hid (k % 4 = 2) := Lib.hid hr
            have m5 : (k : Int) % 4 = 2 := by omega
            have m6 : IntKind.i64.wrap 16 = 16 := by decide
            have m7 : IntKind.u32.wrap 16 = 16 := by decide
            have m3 : IntKind.u8.wrap (z / 65536) = z / 65536 % 256 := IntKind.wrap_u8 _
            clear hr
            go_wp2
            go_still_tail 17, (by kernel_rfl)
            change wpList _ _ _ _ _ (World.drew _)
            go_wp2
            obtain ⟨w6, e6, hb6, k6⟩ := HB.out.putd k (z / 65536 % 256) (zs := outR g s (k + 1)) (by show (outR g s k).set k (byteOf (addw (g.getD (k / 4) 0) (s.getD (k / 4) 0)) (k % 4)) = _; rw [HM.out, ← HQ.out, ← XA.out, ← XB.out, ← HZ.out]; rfl)
            rw [e6]
            have HB6 := Lib.hid hb6
            have HP6 := Lib.hid (HP.out.trans k6 (fun i hi h => h))
            clear e6 hb6 k6 m1 m2 m3 m5 m6 m7 m9 ca cb co fo
            go_roundw
            case rel => exact ⟨k + 1, by omega, by go_num, HB6.out, HP6.out⟩
            case measure => simp [intOf]; omega
          · have m2 : (k : Int).tmod 4 = 3 := by rw [IntWalk.rem_in _ _ (by omega)]; omega
            have HM : Hid (k % 4 = 3) := Lib.hid hr
            have m5 : (k : Int) % 4 = 3 := by omega
            have m6 : IntKind.i64.wrap 24 = 24 := by decide
            have m7 : IntKind.u32.wrap 24 = 24 := by decide
            have m3 : IntKind.u8.wrap (z / 16777216) = z / 16777216 := IntWalk.u8_in _ (by omega)
            clear hr
            go_wp2
            go_still_tail 17, (by kernel_rfl)
            change wpList _ _ _ _ _ (World.drew _)
            go_wp2
            obtain ⟨w6, e6, hb6, k6⟩ := HB.out.putd k (z / 16777216) (zs := outR g s (k + 1)) (by show (outR g s k).set k (byteOf (addw (g.getD (k / 4) 0) (s.getD (k / 4) 0)) (k % 4)) = _; rw [HM.out, ← HQ.out, ← XA.out, ← XB.out, ← HZ.out]; rfl)
            rw [e6]
            have HB6 := Lib.hid hb6
            have HP6 := Lib.hid (HP.out.trans k6 (fun i hi h => h))
            clear e6 hb6 k6 m1 m2 m3 m5 m6 m7 m9 ca cb co fo
            go_roundw
            case rel => exact ⟨k + 1, by omega, by go_num, HB6.out, HP6.out⟩
            case measure => simp [intOf]; omega
        · obtain rfl : k = 64 := by omega
          have HR := Lib.hid (heap_drop HR.out HP.out (by omega))
          have KK := Lib.hid (KK.out.trans HP.out (fun i hi h => by omega))
          have HL : Hid ((ints (outR g s 64)).length = 64) := Lib.hid (by rw [List.length_map, outR_length])
          have HS : Hid ((Try.prog.info? 32).map (·.size) = some (ints (outR g s 64)).length) := Lib.hid (by rw [HL.out]; exact size32)
          go_wp2_with (first
            | (refine wpList_load_row rfl 32 _ rfl O rfl 32 (ints (outR g s 64)).toArray (0, 0) _ HB.out Try.underlying32 rfl (by rw [List.size_toArray]; exact HS.out) ?_)
            | (refine wpList_store_row rfl 32 _ _ rfl (w.heap.size + 1 + 1) (ints (outR g s 64)) rfl rfl 32 _ HR.out HL.out HS.out (ints_one _) ?_; intro w7 hg7 k7))
          exact bodyPost_ret (results_cell_row rfl _ _ (w.heap.size + 1 + 1) 32 (ints (outR g s 64)).toArray (0, 0) _ rfl hg7 Try.underlying32 rfl (by rw [List.size_toArray]; exact HS.out)) rfl ⟨by rw [EG.out, ← outR_four g s 16], (KK.out.trans k7 (fun i hi h => by omega)).below (fun i hi h => by omega)⟩
end Go.Proofs.Ytmineipjnllopaa
