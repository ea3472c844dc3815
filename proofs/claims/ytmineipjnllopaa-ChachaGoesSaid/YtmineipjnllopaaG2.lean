/- ChachaGoes: the walk. -/
import Derived.Test.YtmineipjnllopaaG1
namespace Go.Proofs.Ytmineipjnllopaa
open Go.RowKit Go.Shelf
set_option linter.unusedVariables false
set_option linter.unusedSimpArgs false

set_option maxHeartbeats 4000000 in
set_option maxRecDepth 100000 in
theorem goes_walk (ks : List Int) (c : Int) (kk : Nat) (w : World) (hk : ks.length = 32) (bk : Bytes ks) (hc : Word c) (hkk : kk < 256) :
    Calls Try.prog 3 #[.agg (ints ks).toArray, .int .u32 c, .int .u8 kk] w fun e w' => e = .returned (.bool true) ∧ Below w.heap.size w w' := by
  have sk := Lib.hid (show (Try.prog.info? 23).map (·.size) = some (ints ks).toArray.size by rw [size23]; simp [ints, hk])
  obtain ⟨m, hm⟩ : ∃ m, kk % 8 = m := ⟨_, rfl⟩
  have hm8 : m < 8 := by omega
  have m1 : (kk : Int) % 8 = (m : Int) := by omega
  have m2 : IntKind.u32.wrap (m : Int) = (m : Int) := IntWalk.u32_in _ (by omega)
  have m3 : IntKind.u8.wrap (m : Int) = (m : Int) := IntWalk.u8_in _ (by omega)
  have m4 : IntKind.i64.wrap (m : Int) = (m : Int) := IntWalk.i64_in _ (by omega)
  have i0 : (0 : Int) ≤ (kk : Int) := by omega
  have i1 : (kk : Int) ≤ 255 := by omega
  have j0 : (0 : Int) ≤ (m : Int) := by omega
  have j1 : (m : Int) ≤ 7 := by omega
  obtain ⟨hc0, hc1⟩ := hc
  obtain ⟨d, hd⟩ : ∃ d, (c + (m : Int)) % 4294967296 = d := ⟨_, rfl⟩
  have ED : Hid (d = ctr c m) := Lib.hid hd.symm
  have HC : Hid (Word c) := Lib.hid ⟨hc0, hc1⟩
  have S1 := Lib.hid (fun (w : World) => stream_lit ks z12 c 640 640 rfl w hk rfl bk (z_bytes 12) HC.out (by decide) (by decide))
  have S2 := Lib.hid (fun (w : World) => stream_lit ks z12 d 100 100 rfl w hk rfl bk (z_bytes 12) (by rw [ED.out]; exact ctr_word c m) (by decide) (by decide))
  have HS : Hid (((strL ks z12 c 640).drop (64 * m)).take 100 = strL ks z12 d 100) := Lib.hid (by rw [ED.out]; exact strL_later ks z12 c m 100 640 (by omega))
  clear hk bk hm
  go_enter Try.func3, Try.ntmps3
  go_wp2_with (refine wpList_load_row rfl 23 _ rfl w.heap.size rfl 23 (ints ks).toArray (0, 0) _ (heap_new_at w _ _ rfl) Try.underlying23 rfl sk.out ?_)
  refine (S1.out _).mono ?_
  rintro e w1 ⟨g1, c1, rfl, own1, b1, hg1, hc1'⟩
  have O1 := Lib.hid own1
  have B1 := Lib.hid b1
  have kc : w1.heap[w.heap.size]? = some (.cells (ints ks).toArray 23 (0, 0)) := (b1.block _ (by simp)).trans (heap_new_at w _ _ rfl)
  have KC := Lib.hid kc
  clear own1 b1 kc
  go_wp2_with (refine wpList_load_row rfl 23 _ rfl w.heap.size rfl 23 (ints ks).toArray (0, 0) _ KC.out Try.underlying23 rfl sk.out ?_)
  refine (S2.out _).mono ?_
  rintro e w2 ⟨g2, c2, rfl, own2, b2, hg2, hc2'⟩
  have O2 := Lib.hid own2
  have O1' : Hid (Own w2 (.slice (some ⟨g1, 0, none⟩) 640 c1) (strL ks z12 c 640)) := Lib.hid (O1.out.keeps (Keeps.of_below b2 (S := fun _ => False)) (fun _ _ h => h))
  have B2 := Lib.hid b2
  clear own2 b2
  go_wp2
  obtain ⟨s, hs⟩ : ∃ s, strOfNums (strL ks z12 d 100) = s := ⟨_, rfl⟩
  have cv1 : ∀ w', Below w2.heap.size w2 w' → (convert 25 9 (.slice (some ⟨g1, 64 * m, none⟩) 100 (c1 - 64 * m))).run Try.prog w' = .ok (.string s) w' := fun w' hw' => by
    rw [← hs, ← HS.out]
    exact str_ok ((reads_cut O1'.out.reads.1 (64 * m) 100).later hw') (by rw [HS.out, strL_length])
  have cv2 : ∀ w', Below w2.heap.size w2 w' → (convert 25 9 (.slice (some ⟨g2, 0, none⟩) 100 c2)).run Try.prog w' = .ok (.string s) w' := fun w' hw' => by
    rw [← hs]
    exact str_ok (O2.out.reads.1.later hw') (strL_length _ _ _ _)
  have CV1 := Lib.hid cv1
  have CV2 := Lib.hid cv2
  have n1 : IntKind.i64.wrap (64 * (m : Int)) = 64 * (m : Int) := IntWalk.i64_in _ (by omega)
  have n2 : IntKind.i64.wrap (64 * (m : Int) + 100) = 64 * (m : Int) + 100 := IntWalk.i64_in _ (by omega)
  have n3 : (0 : Int) ≤ 64 * (m : Int) := by omega
  have n4 : (64 * (m : Int)).toNat = 64 * m := by omega
  have n5 : (64 * (m : Int) + 100).toNat = 64 * m + 100 := by omega
  have n6 : 64 * (m : Int) + 100 ≤ (c1 : Int) := by omega
  have n7 : 64 * (m : Int) ≤ 64 * (m : Int) + 100 := by omega
  have n8 : ¬ (c1 = 64 * m) := by omega
  clear cv1 cv2 hs
  refine wp_region_quiet (C := fun w' => Below w2.heap.size w2 w') (by kernel_rfl) (by kernel_rfl) ((Below.refl _ w2).drew) ?_
  refine wpQuiet_cons (by rfl) (.bool true) (fun w' hw' => by go_simp; exact call_b hw' (awake_ok w')) ?_
  simp only [Act.put, List.setIfInBounds_toArray, List.set_cons_zero, List.set_cons_succ]
  refine wpQuiet_cons (by rfl) (.bool true) (fun w' hw' => by go_simp) ?_
  simp only [Act.put, List.setIfInBounds_toArray, List.set_cons_zero, List.set_cons_succ]
  refine wpQuiet_cons (by rfl) (.int .i64 0) (fun w' hw' => by go_simp) ?_
  simp only [Act.put, List.setIfInBounds_toArray, List.set_cons_zero, List.set_cons_succ]
  refine wpQuiet_cons (by rfl) (.bool true) (fun w' hw' => by go_simp) ?_
  simp only [Act.put, List.setIfInBounds_toArray, List.set_cons_zero, List.set_cons_succ]
  refine wpQuiet_cons (by rfl) (.bool true) (fun w' hw' => by go_simp) ?_
  simp only [Act.put, List.setIfInBounds_toArray, List.set_cons_zero, List.set_cons_succ]
  refine wpQuiet_cons (by rfl) (.bool true) (fun w' hw' => by go_simp) ?_
  simp only [Act.put, List.setIfInBounds_toArray, List.set_cons_zero, List.set_cons_succ]
  refine wpQuiet_cons (by rfl) (.int .i64 0) (fun w' hw' => by go_simp) ?_
  simp only [Act.put, List.setIfInBounds_toArray, List.set_cons_zero, List.set_cons_succ]
  refine wpQuiet_cons (by rfl) (.bool true) (fun w' hw' => by go_simp) ?_
  simp only [Act.put, List.setIfInBounds_toArray, List.set_cons_zero, List.set_cons_succ]
  refine wpQuiet_cons (by rfl) (.bool true) (fun w' hw' => by go_simp) ?_
  simp only [Act.put, List.setIfInBounds_toArray, List.set_cons_zero, List.set_cons_succ]
  refine wpQuiet_cons (by rfl) (.bool true) (fun w' hw' => by go_simp) ?_
  simp only [Act.put, List.setIfInBounds_toArray, List.set_cons_zero, List.set_cons_succ]
  refine wpQuiet_cons (by rfl) (.slice (some ⟨g1, 0, none⟩) 640 c1) (fun w' hw' => by go_simp) ?_
  simp only [Act.put, List.setIfInBounds_toArray, List.set_cons_zero, List.set_cons_succ]
  refine wpQuiet_cons (by rfl) (.int .i64 640) (fun w' hw' => by go_simp) ?_
  simp only [Act.put, List.setIfInBounds_toArray, List.set_cons_zero, List.set_cons_succ]
  refine wpQuiet_cons (by rfl) (.bool true) (fun w' hw' => by go_simp) ?_
  simp only [Act.put, List.setIfInBounds_toArray, List.set_cons_zero, List.set_cons_succ]
  refine wpQuiet_cons (by rfl) (.bool true) (fun w' hw' => by go_simp) ?_
  simp only [Act.put, List.setIfInBounds_toArray, List.set_cons_zero, List.set_cons_succ]
  refine wpQuiet_cons (by rfl) (.bool true) (fun w' hw' => by go_simp) ?_
  simp only [Act.put, List.setIfInBounds_toArray, List.set_cons_zero, List.set_cons_succ]
  refine wpQuiet_cons (by rfl) (.slice (some ⟨g1, 0, none⟩) 640 c1) (fun w' hw' => by go_simp) ?_
  simp only [Act.put, List.setIfInBounds_toArray, List.set_cons_zero, List.set_cons_succ]
  refine wpQuiet_cons (by rfl) (.int .i64 m) (fun w' hw' => by go_simp) ?_
  simp only [Act.put, List.setIfInBounds_toArray, List.set_cons_zero, List.set_cons_succ]
  refine wpQuiet_cons (by rfl) (.int .i64 (64 * m)) (fun w' hw' => by go_simp) ?_
  simp only [Act.put, List.setIfInBounds_toArray, List.set_cons_zero, List.set_cons_succ]
  refine wpQuiet_cons (by rfl) (.int .i64 m) (fun w' hw' => by go_simp) ?_
  simp only [Act.put, List.setIfInBounds_toArray, List.set_cons_zero, List.set_cons_succ]
  refine wpQuiet_cons (by rfl) (.int .i64 (64 * m)) (fun w' hw' => by go_simp) ?_
  simp only [Act.put, List.setIfInBounds_toArray, List.set_cons_zero, List.set_cons_succ]
  refine wpQuiet_cons (by rfl) (.int .i64 (64 * m + 100)) (fun w' hw' => by go_simp) ?_
  simp only [Act.put, List.setIfInBounds_toArray, List.set_cons_zero, List.set_cons_succ]
  refine wpQuiet_cons (by rfl) (.slice (some ⟨g1, 64 * m, none⟩) 100 (c1 - 64 * m)) (fun w' hw' => by go_simp) ?_
  simp only [Act.put, List.setIfInBounds_toArray, List.set_cons_zero, List.set_cons_succ]
  refine wpQuiet_cons (by rfl) (.string s) (fun w' hw' => by have cvv := CV1.out w' hw'; go_simp) ?_
  simp only [Act.put, List.setIfInBounds_toArray, List.set_cons_zero, List.set_cons_succ]
  refine wpQuiet_cons (by rfl) (.slice (some ⟨g2, 0, none⟩) 100 c2) (fun w' hw' => by go_simp) ?_
  simp only [Act.put, List.setIfInBounds_toArray, List.set_cons_zero, List.set_cons_succ]
  refine wpQuiet_cons (by rfl) (.string s) (fun w' hw' => by have cvv := CV2.out w' hw'; go_simp) ?_
  simp only [Act.put, List.setIfInBounds_toArray, List.set_cons_zero, List.set_cons_succ]
  refine wpQuiet_cons (by rfl) (.bool true) (fun w' hw' => by go_simp) ?_
  simp only [Act.put, List.setIfInBounds_toArray, List.set_cons_zero, List.set_cons_succ]
  refine wpQuiet_cons (by rfl) (.bool true) (fun w' hw' => by go_simp) ?_
  simp only [Act.put, List.setIfInBounds_toArray, List.set_cons_zero, List.set_cons_succ]
  refine wpQuiet_cons (by rfl) (.bool true) (fun w' hw' => by go_simp) ?_
  simp only [Act.put, List.setIfInBounds_toArray, List.set_cons_zero, List.set_cons_succ]
  refine wpQuiet_nil ?_
  intro w3 hw3
  have HW := Lib.hid hw3
  clear hw3
  go_wp2
  go_ret
  have t1 : Below w.heap.size w w1 := ((Below.refl _ _).alloc (Nat.le_refl _) _).trans (B1.out.mono (by simp))
  have t2 := t1.trans (B2.out.mono t1.size)
  exact ⟨rfl, t2.trans (HW.out.mono t2.size)⟩
end Go.Proofs.Ytmineipjnllopaa
