/- The words ahead of the rounds. -/
import Derived.Test.YtmineipjnllopaaB3
import Derived.Test.YtmineipjnllopaaC1
namespace Go.Proofs.Ytmineipjnllopaa
open Go.RowKit
set_option linter.unusedVariables false

def wd (ks : List Int) (i : Nat) : Int := lit4 (ks.getD (4 * i) 0) (ks.getD (4 * i + 1) 0) (ks.getD (4 * i + 2) 0) (ks.getD (4 * i + 3) 0)
theorem Bytes.at_ {ks : List Int} (h : Bytes ks) {i : Nat} (hi : i < ks.length) : Byte (ks.getD i 0) := by
  rw [show ks.getD i 0 = ks[i] by simp [List.getD, hi]]
  exact h _ (List.getElem_mem hi)
theorem wd_word {ks : List Int} (h : Bytes ks) {i : Nat} (hi : 4 * i + 3 < ks.length) : Word (wd ks i) := by
  have h0 := h.at_ (i := 4 * i) (by omega)
  have h1 := h.at_ (i := 4 * i + 1) (by omega)
  have h2 := h.at_ (i := 4 * i + 2) (by omega)
  have h3 := h.at_ (i := 4 * i + 3) (by omega)
  unfold Byte at h0 h1 h2 h3
  unfold Word wd lit4
  omega
def consts (c : Int) : List Int := [1634760805, 857760878, 2036477234, 1797285236, 0, 0, 0, 0, 0, 0, 0, 0, c, 0, 0, 0]
theorem consts_words {c : Int} (hc : Word c) : Words (consts c) := by
  refine ⟨rfl, ?_⟩
  unfold Word at *
  intro x hx
  simp [consts] at hx
  omega
def startG (ks ns : List Int) (c : Int) : List Int :=
  (((((((((((consts c).set 4 (wd ks 0)).set 5 (wd ks 1)).set 6 (wd ks 2)).set 7 (wd ks 3)).set 8 (wd ks 4)).set 9 (wd ks 5)).set 10 (wd ks 6)).set 11 (wd ks 7)).set 13 (wd ns 0)).set 14 (wd ns 1)).set 15 (wd ns 2)

theorem little_at (T g o cp : Nat) (ks : List Int) (i : Nat) (w : World) (hb : Bytes ks) (hk : BytesAt w T g ks) (hi : 4 * i + 3 < ks.length) (ho : o = 4 * i) :
    Calls Try.prog 21 #[.slice (some ⟨g, o, none⟩) 4 cp] w fun e w' => e = .returned (.int .u64 (wd ks i)) ∧ w = w' := by
  subst ho
  exact little_ok g (4 * i) cp _ _ _ _ w (hb.at_ (by omega)) (hb.at_ (by omega)) (hb.at_ (by omega)) (hb.at_ hi) (hk.at_ (by omega)).1 (hk.at_ (by omega)).1 (hk.at_ (by omega)).1 (hk.at_ hi).1

theorem heap_new_at (w : World) (o : Obj) (n : Nat) (h : n = w.heap.size) : (w.alloc o).heap[n]? = some o := by subst h; exact heap_alloc_new w o
theorem heap_old_at (w : World) (o : Obj) (n : Nat) (h : n < w.heap.size) : (w.alloc o).heap[n]? = w.heap[n]? := Below.heap_alloc w o n h
theorem GridAt.put' {w : World} {T : TypeId} {g : Nat} {s t : List Int} (h : GridAt w T g s) (i : Nat) (x : Int) (ht : t = s.set i x) :
    ∃ w1, w.setCell ⟨g, i, none⟩ (.int .u32 x) = w1 ∧ GridAt w1 T g t ∧ Keeps w w1 (fun k => k = g) :=
  ⟨_, rfl, by subst ht; exact h.store i x, Keeps.setCell w ⟨g, i, none⟩ _ (S := fun k => k = g) rfl⟩

set_option maxHeartbeats 4000000 in
set_option maxRecDepth 100000 in
theorem begun_ok (ks ns : List Int) (c : Int) (w : World) (hk : ks.length = 32) (hn : ns.length = 12) (bk : Bytes ks) (bn : Bytes ns) (hc : Word c) :
    Calls Try.prog 15 #[.agg (ints ks).toArray, .agg (ints ns).toArray, .int .u32 c] w fun e w' =>
      e = .returned (.agg (words (startG ks ns c))) ∧ Below w.heap.size w w' := by
  obtain ⟨k0, hk0⟩ : ∃ k0, (ints ks).toArray = k0 := ⟨_, rfl⟩
  obtain ⟨n0, hn0⟩ : ∃ n0, (ints ns).toArray = n0 := ⟨_, rfl⟩
  rw [hk0, hn0]
  have KS := Lib.hid hk0
  have NS := Lib.hid hn0
  have KL := Lib.hid hk
  have NL := Lib.hid hn
  have BK := Lib.hid bk
  have BN := Lib.hid bn
  have HC := Lib.hid hc
  obtain ⟨hc0, hc1⟩ := hc
  clear hk0 hn0 hk hn bk bn
  go_enter Try.func15, Try.ntmps15
  go_wp2
  obtain ⟨w0, e1⟩ : ∃ w0, ((((w.alloc (.cells k0 23)).alloc (.cells n0 29)).alloc (.cells #[.int .u32 0, .int .u32 0, .int .u32 0, .int .u32 0, .int .u32 0, .int .u32 0, .int .u32 0, .int .u32 0, .int .u32 0, .int .u32 0, .int .u32 0, .int .u32 0, .int .u32 0, .int .u32 0, .int .u32 0, .int .u32 0] 44)).alloc (.cells #[.int .u32 1634760805, .int .u32 857760878, .int .u32 2036477234, .int .u32 1797285236, .int .u32 0, .int .u32 0, .int .u32 0, .int .u32 0, .int .u32 0, .int .u32 0, .int .u32 0, .int .u32 0, .int .u32 c, .int .u32 0, .int .u32 0, .int .u32 0] 44)) = w0 := ⟨_, rfl⟩
  rw [e1]
  have hK : BytesAt w0 23 w.heap.size ks := by rw [← e1]; unfold BytesAt; rw [KS.out]; exact (heap_old_at _ _ _ (by simp <;> omega)).trans ((heap_old_at _ _ _ (by simp <;> omega)).trans ((heap_old_at _ _ _ (by simp <;> omega)).trans (heap_new_at _ _ _ rfl)))
  have hN : BytesAt w0 29 (w.heap.size + 1) ns := by rw [← e1]; unfold BytesAt; rw [NS.out]; exact (heap_old_at _ _ _ (by simp <;> omega)).trans ((heap_old_at _ _ _ (by simp <;> omega)).trans (heap_new_at _ _ _ (by simp)))
  have hR : w0.heap[w.heap.size + 1 + 1]? = some (.cells #[.int .u32 0, .int .u32 0, .int .u32 0, .int .u32 0, .int .u32 0, .int .u32 0, .int .u32 0, .int .u32 0, .int .u32 0, .int .u32 0, .int .u32 0, .int .u32 0, .int .u32 0, .int .u32 0, .int .u32 0, .int .u32 0] 44 (0, 0)) := by rw [← e1]; exact (heap_old_at _ _ _ (by simp <;> omega)).trans (heap_new_at _ _ _ (by simp))
  have hG : GridAt w0 44 (w.heap.size + 1 + 1 + 1) (consts c) := by rw [← e1]; exact heap_new_at _ _ _ (by simp)
  have kk : Keeps w w0 (fun k => w.heap.size ≤ k) := Keeps.of_below (by rw [← e1]; exact ((((Below.refl _ _).alloc (Nat.le_refl _) _).alloc (by simp) _).alloc (by simp <;> omega) _).alloc (by simp <;> omega) _)
  have HK := Lib.hid hK
  have HN := Lib.hid hN
  have HR := Lib.hid hR
  have HG := Lib.hid hG
  have KK := Lib.hid kk
  have HZ : Hid (w.heap.size + 1 + 1 + 1 < w0.heap.size) := Lib.hid (heap_lt hG)
  clear hK hN hR hG kk e1
  refine wp_loop_rounds 9 ?_
  rw [rounds_succ]
  obtain ⟨z, hz⟩ : ∃ z, z = wd ks 0 := ⟨_, rfl⟩
  obtain ⟨z0, z1⟩ : Word z := by rw [hz]; exact wd_word BK.out (by rw [KL.out]; decide)
  have HW := Lib.hid hz
  clear hz
  go_wp2_with fail
  refine (little_at 23 _ _ _ ks 0 _ BK.out HK.out (by rw [KL.out]; decide) (by rfl)).mono ?_
  rintro e w9 ⟨rfl, rfl⟩
  rw [← HW.out]
  have cg : (w0.cell? ⟨w.heap.size + 1 + 1 + 1, 4, none⟩) = some (.int .u32 0) := cell_of HG.out 4
  have fg := frozen_of HG.out 4
  go_wp2
  obtain ⟨s1, e2⟩ : ∃ t, t = (consts c).set 4 z := ⟨_, rfl⟩
  obtain ⟨w1, e1, hg1, k1⟩ := HG.out.put' 4 z (t := (consts c).set 4 z) rfl
  rw [e1]
  have HK := Lib.hid (k1.heap HK.out (by omega))
  have HN := Lib.hid (k1.heap HN.out (by omega))
  have HR := Lib.hid (k1.heap HR.out (by omega))
  have HG := Lib.hid hg1
  have KK := Lib.hid (KK.out.trans k1 (fun i hi h => by omega))
  rw [HW.out] at HG
  clear e1 e2 hg1 k1 cg fg HW z0 z1
  skip
  rw [rounds_succ]
  obtain ⟨z, hz⟩ : ∃ z, z = wd ks 1 := ⟨_, rfl⟩
  obtain ⟨z0, z1⟩ : Word z := by rw [hz]; exact wd_word BK.out (by rw [KL.out]; decide)
  have HW := Lib.hid hz
  clear hz
  go_wp2_with fail
  refine (little_at 23 _ _ _ ks 1 _ BK.out HK.out (by rw [KL.out]; decide) (by rfl)).mono ?_
  rintro e w9 ⟨rfl, rfl⟩
  rw [← HW.out]
  have cg : (w1.cell? ⟨w.heap.size + 1 + 1 + 1, 5, none⟩) = some (.int .u32 0) := cell_of HG.out 5
  have fg := frozen_of HG.out 5
  go_wp2
  obtain ⟨s2, e2⟩ : ∃ t, t = ((consts c).set 4 (wd ks 0)).set 5 z := ⟨_, rfl⟩
  obtain ⟨w2, e1, hg1, k1⟩ := HG.out.put' 5 z (t := ((consts c).set 4 (wd ks 0)).set 5 z) rfl
  rw [e1]
  have HK := Lib.hid (k1.heap HK.out (by omega))
  have HN := Lib.hid (k1.heap HN.out (by omega))
  have HR := Lib.hid (k1.heap HR.out (by omega))
  have HG := Lib.hid hg1
  have KK := Lib.hid (KK.out.trans k1 (fun i hi h => by omega))
  rw [HW.out] at HG
  clear e1 e2 hg1 k1 cg fg HW z0 z1
  skip
  rw [rounds_succ]
  obtain ⟨z, hz⟩ : ∃ z, z = wd ks 2 := ⟨_, rfl⟩
  obtain ⟨z0, z1⟩ : Word z := by rw [hz]; exact wd_word BK.out (by rw [KL.out]; decide)
  have HW := Lib.hid hz
  clear hz
  go_wp2_with fail
  refine (little_at 23 _ _ _ ks 2 _ BK.out HK.out (by rw [KL.out]; decide) (by rfl)).mono ?_
  rintro e w9 ⟨rfl, rfl⟩
  rw [← HW.out]
  have cg : (w2.cell? ⟨w.heap.size + 1 + 1 + 1, 6, none⟩) = some (.int .u32 0) := cell_of HG.out 6
  have fg := frozen_of HG.out 6
  go_wp2
  obtain ⟨s3, e2⟩ : ∃ t, t = (((consts c).set 4 (wd ks 0)).set 5 (wd ks 1)).set 6 z := ⟨_, rfl⟩
  obtain ⟨w3, e1, hg1, k1⟩ := HG.out.put' 6 z (t := (((consts c).set 4 (wd ks 0)).set 5 (wd ks 1)).set 6 z) rfl
  rw [e1]
  have HK := Lib.hid (k1.heap HK.out (by omega))
  have HN := Lib.hid (k1.heap HN.out (by omega))
  have HR := Lib.hid (k1.heap HR.out (by omega))
  have HG := Lib.hid hg1
  have KK := Lib.hid (KK.out.trans k1 (fun i hi h => by omega))
  rw [HW.out] at HG
  clear e1 e2 hg1 k1 cg fg HW z0 z1
  skip
  rw [rounds_succ]
  obtain ⟨z, hz⟩ : ∃ z, z = wd ks 3 := ⟨_, rfl⟩
  obtain ⟨z0, z1⟩ : Word z := by rw [hz]; exact wd_word BK.out (by rw [KL.out]; decide)
  have HW := Lib.hid hz
  clear hz
  go_wp2_with fail
  refine (little_at 23 _ _ _ ks 3 _ BK.out HK.out (by rw [KL.out]; decide) (by rfl)).mono ?_
  rintro e w9 ⟨rfl, rfl⟩
  rw [← HW.out]
  have cg : (w3.cell? ⟨w.heap.size + 1 + 1 + 1, 7, none⟩) = some (.int .u32 0) := cell_of HG.out 7
  have fg := frozen_of HG.out 7
  go_wp2
  obtain ⟨s4, e2⟩ : ∃ t, t = ((((consts c).set 4 (wd ks 0)).set 5 (wd ks 1)).set 6 (wd ks 2)).set 7 z := ⟨_, rfl⟩
  obtain ⟨w4, e1, hg1, k1⟩ := HG.out.put' 7 z (t := ((((consts c).set 4 (wd ks 0)).set 5 (wd ks 1)).set 6 (wd ks 2)).set 7 z) rfl
  rw [e1]
  have HK := Lib.hid (k1.heap HK.out (by omega))
  have HN := Lib.hid (k1.heap HN.out (by omega))
  have HR := Lib.hid (k1.heap HR.out (by omega))
  have HG := Lib.hid hg1
  have KK := Lib.hid (KK.out.trans k1 (fun i hi h => by omega))
  rw [HW.out] at HG
  clear e1 e2 hg1 k1 cg fg HW z0 z1
  skip
  rw [rounds_succ]
  obtain ⟨z, hz⟩ : ∃ z, z = wd ks 4 := ⟨_, rfl⟩
  obtain ⟨z0, z1⟩ : Word z := by rw [hz]; exact wd_word BK.out (by rw [KL.out]; decide)
  have HW := Lib.hid hz
  clear hz
  go_wp2_with fail
  refine (little_at 23 _ _ _ ks 4 _ BK.out HK.out (by rw [KL.out]; decide) (by rfl)).mono ?_
  rintro e w9 ⟨rfl, rfl⟩
  rw [← HW.out]
  have cg : (w4.cell? ⟨w.heap.size + 1 + 1 + 1, 8, none⟩) = some (.int .u32 0) := cell_of HG.out 8
  have fg := frozen_of HG.out 8
  go_wp2
  obtain ⟨s5, e2⟩ : ∃ t, t = (((((consts c).set 4 (wd ks 0)).set 5 (wd ks 1)).set 6 (wd ks 2)).set 7 (wd ks 3)).set 8 z := ⟨_, rfl⟩
  obtain ⟨w5, e1, hg1, k1⟩ := HG.out.put' 8 z (t := (((((consts c).set 4 (wd ks 0)).set 5 (wd ks 1)).set 6 (wd ks 2)).set 7 (wd ks 3)).set 8 z) rfl
  rw [e1]
  have HK := Lib.hid (k1.heap HK.out (by omega))
  have HN := Lib.hid (k1.heap HN.out (by omega))
  have HR := Lib.hid (k1.heap HR.out (by omega))
  have HG := Lib.hid hg1
  have KK := Lib.hid (KK.out.trans k1 (fun i hi h => by omega))
  rw [HW.out] at HG
  clear e1 e2 hg1 k1 cg fg HW z0 z1
  skip
  rw [rounds_succ]
  obtain ⟨z, hz⟩ : ∃ z, z = wd ks 5 := ⟨_, rfl⟩
  obtain ⟨z0, z1⟩ : Word z := by rw [hz]; exact wd_word BK.out (by rw [KL.out]; decide)
  have HW := Lib.hid hz
  clear hz
  go_wp2_with fail
  refine (little_at 23 _ _ _ ks 5 _ BK.out HK.out (by rw [KL.out]; decide) (by rfl)).mono ?_
  rintro e w9 ⟨rfl, rfl⟩
  rw [← HW.out]
  have cg : (w5.cell? ⟨w.heap.size + 1 + 1 + 1, 9, none⟩) = some (.int .u32 0) := cell_of HG.out 9
  have fg := frozen_of HG.out 9
  go_wp2
  obtain ⟨s6, e2⟩ : ∃ t, t = ((((((consts c).set 4 (wd ks 0)).set 5 (wd ks 1)).set 6 (wd ks 2)).set 7 (wd ks 3)).set 8 (wd ks 4)).set 9 z := ⟨_, rfl⟩
  obtain ⟨w6, e1, hg1, k1⟩ := HG.out.put' 9 z (t := ((((((consts c).set 4 (wd ks 0)).set 5 (wd ks 1)).set 6 (wd ks 2)).set 7 (wd ks 3)).set 8 (wd ks 4)).set 9 z) rfl
  rw [e1]
  have HK := Lib.hid (k1.heap HK.out (by omega))
  have HN := Lib.hid (k1.heap HN.out (by omega))
  have HR := Lib.hid (k1.heap HR.out (by omega))
  have HG := Lib.hid hg1
  have KK := Lib.hid (KK.out.trans k1 (fun i hi h => by omega))
  rw [HW.out] at HG
  clear e1 e2 hg1 k1 cg fg HW z0 z1
  skip
  rw [rounds_succ]
  obtain ⟨z, hz⟩ : ∃ z, z = wd ks 6 := ⟨_, rfl⟩
  obtain ⟨z0, z1⟩ : Word z := by rw [hz]; exact wd_word BK.out (by rw [KL.out]; decide)
  have HW := Lib.hid hz
  clear hz
  go_wp2_with fail
  refine (little_at 23 _ _ _ ks 6 _ BK.out HK.out (by rw [KL.out]; decide) (by rfl)).mono ?_
  rintro e w9 ⟨rfl, rfl⟩
  rw [← HW.out]
  have cg : (w6.cell? ⟨w.heap.size + 1 + 1 + 1, 10, none⟩) = some (.int .u32 0) := cell_of HG.out 10
  have fg := frozen_of HG.out 10
  go_wp2
  obtain ⟨s7, e2⟩ : ∃ t, t = (((((((consts c).set 4 (wd ks 0)).set 5 (wd ks 1)).set 6 (wd ks 2)).set 7 (wd ks 3)).set 8 (wd ks 4)).set 9 (wd ks 5)).set 10 z := ⟨_, rfl⟩
  obtain ⟨w7, e1, hg1, k1⟩ := HG.out.put' 10 z (t := (((((((consts c).set 4 (wd ks 0)).set 5 (wd ks 1)).set 6 (wd ks 2)).set 7 (wd ks 3)).set 8 (wd ks 4)).set 9 (wd ks 5)).set 10 z) rfl
  rw [e1]
  have HK := Lib.hid (k1.heap HK.out (by omega))
  have HN := Lib.hid (k1.heap HN.out (by omega))
  have HR := Lib.hid (k1.heap HR.out (by omega))
  have HG := Lib.hid hg1
  have KK := Lib.hid (KK.out.trans k1 (fun i hi h => by omega))
  rw [HW.out] at HG
  clear e1 e2 hg1 k1 cg fg HW z0 z1
  skip
  rw [rounds_succ]
  obtain ⟨z, hz⟩ : ∃ z, z = wd ks 7 := ⟨_, rfl⟩
  obtain ⟨z0, z1⟩ : Word z := by rw [hz]; exact wd_word BK.out (by rw [KL.out]; decide)
  have HW := Lib.hid hz
  clear hz
  go_wp2_with fail
  refine (little_at 23 _ _ _ ks 7 _ BK.out HK.out (by rw [KL.out]; decide) (by rfl)).mono ?_
  rintro e w9 ⟨rfl, rfl⟩
  rw [← HW.out]
  have cg : (w7.cell? ⟨w.heap.size + 1 + 1 + 1, 11, none⟩) = some (.int .u32 0) := cell_of HG.out 11
  have fg := frozen_of HG.out 11
  go_wp2
  obtain ⟨s8, e2⟩ : ∃ t, t = ((((((((consts c).set 4 (wd ks 0)).set 5 (wd ks 1)).set 6 (wd ks 2)).set 7 (wd ks 3)).set 8 (wd ks 4)).set 9 (wd ks 5)).set 10 (wd ks 6)).set 11 z := ⟨_, rfl⟩
  obtain ⟨w8, e1, hg1, k1⟩ := HG.out.put' 11 z (t := ((((((((consts c).set 4 (wd ks 0)).set 5 (wd ks 1)).set 6 (wd ks 2)).set 7 (wd ks 3)).set 8 (wd ks 4)).set 9 (wd ks 5)).set 10 (wd ks 6)).set 11 z) rfl
  rw [e1]
  have HK := Lib.hid (k1.heap HK.out (by omega))
  have HN := Lib.hid (k1.heap HN.out (by omega))
  have HR := Lib.hid (k1.heap HR.out (by omega))
  have HG := Lib.hid hg1
  have KK := Lib.hid (KK.out.trans k1 (fun i hi h => by omega))
  rw [HW.out] at HG
  clear e1 e2 hg1 k1 cg fg HW z0 z1
  skip
  rw [rounds_succ]
  go_wp2
  refine wp_loop_rounds 4 ?_
  rw [rounds_succ]
  obtain ⟨z, hz⟩ : ∃ z, z = wd ns 0 := ⟨_, rfl⟩
  obtain ⟨z0, z1⟩ : Word z := by rw [hz]; exact wd_word BN.out (by rw [NL.out]; decide)
  have HW := Lib.hid hz
  clear hz
  go_wp2_with fail
  refine (little_at 29 _ _ _ ns 0 _ BN.out HN.out (by rw [NL.out]; decide) (by rfl)).mono ?_
  rintro e w9 ⟨rfl, rfl⟩
  rw [← HW.out]
  have cg : (w8.cell? ⟨w.heap.size + 1 + 1 + 1, 13, none⟩) = some (.int .u32 0) := cell_of HG.out 13
  have fg := frozen_of HG.out 13
  go_wp2
  obtain ⟨s9, e2⟩ : ∃ t, t = (((((((((consts c).set 4 (wd ks 0)).set 5 (wd ks 1)).set 6 (wd ks 2)).set 7 (wd ks 3)).set 8 (wd ks 4)).set 9 (wd ks 5)).set 10 (wd ks 6)).set 11 (wd ks 7)).set 13 z := ⟨_, rfl⟩
  obtain ⟨w9, e1, hg1, k1⟩ := HG.out.put' 13 z (t := (((((((((consts c).set 4 (wd ks 0)).set 5 (wd ks 1)).set 6 (wd ks 2)).set 7 (wd ks 3)).set 8 (wd ks 4)).set 9 (wd ks 5)).set 10 (wd ks 6)).set 11 (wd ks 7)).set 13 z) rfl
  rw [e1]
  have HK := Lib.hid (k1.heap HK.out (by omega))
  have HN := Lib.hid (k1.heap HN.out (by omega))
  have HR := Lib.hid (k1.heap HR.out (by omega))
  have HG := Lib.hid hg1
  have KK := Lib.hid (KK.out.trans k1 (fun i hi h => by omega))
  rw [HW.out] at HG
  clear e1 e2 hg1 k1 cg fg HW z0 z1
  skip
  rw [rounds_succ]
  obtain ⟨z, hz⟩ : ∃ z, z = wd ns 1 := ⟨_, rfl⟩
  obtain ⟨z0, z1⟩ : Word z := by rw [hz]; exact wd_word BN.out (by rw [NL.out]; decide)
  have HW := Lib.hid hz
  clear hz
  go_wp2_with fail
  refine (little_at 29 _ _ _ ns 1 _ BN.out HN.out (by rw [NL.out]; decide) (by rfl)).mono ?_
  rintro e w9 ⟨rfl, rfl⟩
  rw [← HW.out]
  have cg : (w9.cell? ⟨w.heap.size + 1 + 1 + 1, 14, none⟩) = some (.int .u32 0) := cell_of HG.out 14
  have fg := frozen_of HG.out 14
  go_wp2
  obtain ⟨s10, e2⟩ : ∃ t, t = ((((((((((consts c).set 4 (wd ks 0)).set 5 (wd ks 1)).set 6 (wd ks 2)).set 7 (wd ks 3)).set 8 (wd ks 4)).set 9 (wd ks 5)).set 10 (wd ks 6)).set 11 (wd ks 7)).set 13 (wd ns 0)).set 14 z := ⟨_, rfl⟩
  obtain ⟨w10, e1, hg1, k1⟩ := HG.out.put' 14 z (t := ((((((((((consts c).set 4 (wd ks 0)).set 5 (wd ks 1)).set 6 (wd ks 2)).set 7 (wd ks 3)).set 8 (wd ks 4)).set 9 (wd ks 5)).set 10 (wd ks 6)).set 11 (wd ks 7)).set 13 (wd ns 0)).set 14 z) rfl
  rw [e1]
  have HK := Lib.hid (k1.heap HK.out (by omega))
  have HN := Lib.hid (k1.heap HN.out (by omega))
  have HR := Lib.hid (k1.heap HR.out (by omega))
  have HG := Lib.hid hg1
  have KK := Lib.hid (KK.out.trans k1 (fun i hi h => by omega))
  rw [HW.out] at HG
  clear e1 e2 hg1 k1 cg fg HW z0 z1
  skip
  rw [rounds_succ]
  obtain ⟨z, hz⟩ : ∃ z, z = wd ns 2 := ⟨_, rfl⟩
  obtain ⟨z0, z1⟩ : Word z := by rw [hz]; exact wd_word BN.out (by rw [NL.out]; decide)
  have HW := Lib.hid hz
  clear hz
  go_wp2_with fail
  refine (little_at 29 _ _ _ ns 2 _ BN.out HN.out (by rw [NL.out]; decide) (by rfl)).mono ?_
  rintro e w9 ⟨rfl, rfl⟩
  rw [← HW.out]
  have cg : (w10.cell? ⟨w.heap.size + 1 + 1 + 1, 15, none⟩) = some (.int .u32 0) := cell_of HG.out 15
  have fg := frozen_of HG.out 15
  go_wp2
  obtain ⟨s11, e2⟩ : ∃ t, t = (((((((((((consts c).set 4 (wd ks 0)).set 5 (wd ks 1)).set 6 (wd ks 2)).set 7 (wd ks 3)).set 8 (wd ks 4)).set 9 (wd ks 5)).set 10 (wd ks 6)).set 11 (wd ks 7)).set 13 (wd ns 0)).set 14 (wd ns 1)).set 15 z := ⟨_, rfl⟩
  obtain ⟨w11, e1, hg1, k1⟩ := HG.out.put' 15 z (t := (((((((((((consts c).set 4 (wd ks 0)).set 5 (wd ks 1)).set 6 (wd ks 2)).set 7 (wd ks 3)).set 8 (wd ks 4)).set 9 (wd ks 5)).set 10 (wd ks 6)).set 11 (wd ks 7)).set 13 (wd ns 0)).set 14 (wd ns 1)).set 15 z) rfl
  rw [e1]
  have HK := Lib.hid (k1.heap HK.out (by omega))
  have HN := Lib.hid (k1.heap HN.out (by omega))
  have HR := Lib.hid (k1.heap HR.out (by omega))
  have HG := Lib.hid hg1
  have KK := Lib.hid (KK.out.trans k1 (fun i hi h => by omega))
  rw [HW.out] at HG
  clear e1 e2 hg1 k1 cg fg HW z0 z1
  skip
  rw [rounds_succ]
  have hl : ((startG ks ns c).map (Value.int .u32)).length = 16 := rfl
  have HG : Hid (GridAt w11 44 (w.heap.size + 1 + 1 + 1) (startG ks ns c)) := HG
  go_wp2_with (first
    | (refine wpList_load_row rfl 44 _ rfl (w.heap.size + 1 + 1 + 1) rfl 44 (words (startG ks ns c)) (0, 0) _ HG.out Try.underlying44 rfl size44 ?_)
    | (refine wpList_store_row rfl 44 _ _ rfl (w.heap.size + 1 + 1) ((startG ks ns c).map (Value.int .u32)) rfl rfl 44 _ HR.out rfl size44 (words_one _) ?_; intro w12 hg12 k12))
  exact bodyPost_ret (results_cell_row rfl _ _ (w.heap.size + 1 + 1) 44 (words (startG ks ns c)) (0, 0) _ rfl hg12 Try.underlying44 rfl size44) rfl ⟨rfl, (KK.out.trans k12 (fun i hi h => by omega)).below (fun i hi h => by omega)⟩
end Go.Proofs.Ytmineipjnllopaa
